/- Part 44 of what the claim rests on. -/
import Derived.Test.YtfjbdamcmiglgaaGreatOwn43
import Derived.Lib.Overlaps
import Derived.Sort.Row
import Derived.Sort.Grow
set_option linter.all false
abbrev fX:=@Bool.or_false
abbrev rQ:=@List.append_inj
abbrev lC:=@List.filter_append
abbrev iN:=@List.find?_cons
abbrev jw:=@List.find?_eq_none
abbrev n7:=@List.mem_map_of_mem
abbrev ck:=@List.mem_of_find?_eq_some
abbrev du:=@List.mem_reverse
abbrev dC:=@List.of_mem_zip
abbrev iQ:=@List.reverse_reverse
abbrev cu:=@List.set_cons_succ
abbrev cw:=@List.set_cons_zero
abbrev cz:=@List.take_append_of_le_length
abbrev jx:=@List.zip_cons_cons
abbrev fZ:=@Nat.lt_or_ge
abbrev qq:=@Nat.zero_lt_succ
abbrev oH:=@Option.isSome_none
abbrev oI:=@Option.isSome_some
namespace Go.dq
open Go
section
variable {P:Program}{X:Nat->Nat->Prop}{base:Nat}{σ:av}{β β':Env}{w w':World}
theorem T1 {M:Nat->Nat->Prop} {v:Value} {s:ah} {b off n sz:Nat} (h:cn w M β v s) (hs:s=.os b off n sz\/∃c,s=.oc b off n c sz) (hn : 0<n):∃L c,β b=some L/\L.sz=sz/\n<=c/\off+c<=L.n/\v=.slice (some ⟨L.g,L.o+off*L.sz,none⟩) n c:=by
 rcases hs with rfl|⟨c,rfl⟩
 ·rcases h.tV with⟨rfl,_⟩|⟨L,c,hL,ko,h1,h2,rfl⟩
  ·exact absurd hn (jF _)
  ·exact⟨L,c,hL,ko,h1,h2,rfl⟩
 ·rcases h.vQ with⟨rfl,_⟩|⟨L,hL,ko,h1,h2,rfl⟩
  ·exact absurd hn (jF _)
  ·exact⟨L,_,hL,ko,h1,h2,rfl⟩
theorem ak.uL {g : FuncId} {fn : Func} (hf : P.funcs[g]? = some fn) (fe : (fn.name == "runtime.NumGoroutine") = false) (hb : fn.body.isNone = true) (hn : Extern.findNext fn = none) {tS tR e : TypeId}
  (he:Extern.find fn=some (Extern.SlicesOverlaps.overlaps #[tS,tS] #[tR])) (ht:P.underlying tS=some (.slice e)) {l:fL} (hl:cC P e=some l) {s t:ah} {b1 b2 o1 o2 n1 n2 sz:Nat}
  (hs:s=.os b1 o1 n1 sz\/∃c,s=.oc b1 o1 n1 c sz) (zm:t=.os b2 o2 n2 sz\/∃c,t=.oc b2 o2 n2 c sz) (hz : 0<sz) (h1 : 0<n1) (h2 : 0<n2) {es1 es2:List ah} {fz1 fz2:Nat} (qR:bW σ b1=some (.row es1 fz1)) (v8:bW σ b2=some (.row es2 fz2)) (dL:b1≠b2)
  {K:ah->av->Prop} (hk:K (.bool false) σ):ak P (.fn g [] []) [s,t] σ K:=by
 refine ak.sh ?_;intro X base β w vs Ml ZR h3 fr cs h4;obtain⟨x,y,rfl⟩:∃x y,vs = #[x,y]:=by
  simp at ZR
  match vs,ZR with
  |⟨[x,y]⟩,_=>exact⟨x,y,rfl⟩
 have hx:=h3 0 (by simp);have hy:=h3 1 (by simp);simp only[aY,bf,aV,bE]at hx hy;have ex:(#[x,y]:Array Value).getD 0 undef=x:=rfl;have ey:(#[x,y]:Array Value).getD 1 undef=y:=rfl;rw[ex]at hx;rw[ey]at hy;obtain⟨L1,c1,k1,k2,k3,k4,rfl⟩:=T1 hx hs h1;obtain⟨L2,c2,q1,q2,q3,q4,rfl⟩:=T1 hy zm h2;obtain⟨DE,m1,m2,m3,d1,e1,m4,m5,m6,m7⟩:=Ml.cG b1 _ (la qR);obtain rfl:=aS (m1.symm.trans k1);obtain⟨BG,u1,u2,u3,d2,e2,u4,u5,u6,u7⟩:=Ml.cG b2 _ (la v8);obtain rfl:=aS (u1.symm.trans q1);have Rl:DE.g≠BG.g:=λe=>dL (Ml.inj b1 b2 _ _ DE BG (la qR) (la v8) k1 q1 e);obtain⟨ti,_,z,rX,_⟩:=rS hl;have JV : 0<d2.size:=by
  have : 1*1<=BG.n*BG.sz:=Nat.mul_le_mul (by omega) (by omega);omega
 have JS:=Lib.run_overlaps_apart (P:=P) w tS tR e ht ti.size (λw=>wq rX) ⟨DE.g,DE.o+o1*DE.sz,none⟩ ⟨BG.g,BG.o+o2*BG.sz,none⟩ n1 c1 n2 c2 Rl e1 e2 d1.size d2.size
  (by simp only[World.shape?,m4]) (by simp only[World.shape?,u4]) (by omega) (by simp[World.frozen?,m4]) (by simp[World.frozen?,m4])
 have fE:(callFunc g #[.slice (some ⟨DE.g,DE.o+o1*DE.sz,none⟩) n1 c1,.slice (some ⟨BG.g,BG.o+o2*BG.sz,none⟩) n2 c2]).run P w=.ok (.value (.bool false)) w:=by
  rw[run_callFunc_extern hf fe hb hn he,JS];rfl
 refine⟨_,σ,β,.bool false,w,hk,Ml,.bool false,Ext.refl _ _ _ _,ae _,fr.finish (.bool false),cs,w,?_,.refl _ _⟩;simp only[stepG.apply,if_true,Sem.runT_eq,fE,GStep.bare_after,GStep.bare_go]
theorem YD {enc:Int->Value} (ts:List Int) (off:Nat) (c:Array Value) (k:Nat):(Sort.putCells enc off ts.toArray c).getD k undef=if off<=k/\k<off+ts.length/\k<c.size then enc (ts.getD (k-off) 0) else c.getD k undef:=by
 simp only[Sort.putCells,au,Array.getElem?_mapIdx];by_cases hk:k<c.size
 ·simp only[aE hk,bD,bd,List.size_toArray];by_cases h:off<=k/\k<off+ts.length
  ·rw[if_pos h,if_pos ⟨h.1,h.2,hk⟩];have h':k-off<ts.length:=by omega
   rw[getElem!_pos ts.toArray _ (by simpa using h')];simp[List.getD,h']
  ·rw[if_neg h,if_neg (λhh=>h ⟨hh.1,hh.2.1⟩)]
 ·simp[Array.getElem?_eq_none (en hk),hk]
theorem ak.Du {g : FuncId} {fn : Func} {c : Code} (hf : P.funcs[g]? = some fn) (hb : fn.body = some c) (fe : (fn.name == "runtime.NumGoroutine") = false) {zs ts : List Int} {b : Nat} (xV : bW σ b = some (.row (zs.map (.int .i64)) 0)) (hlen : ts.length = zs.length)
  (h:∀(w:World) (cG off cap:Nat),Sort.Holds (Value.int .i64) w cG off zs.toArray->cG<w.heap.size->Calls P g #[.slice (some ⟨cG,off,none⟩) zs.length cap] w λe w'=>e=.returned (.tuple #[])/\∃n os,w'=Sort.grow (Sort.putRow (Value.int .i64) (Sort.ahead w n) cG off ts.toArray) os)
  (h0:∀(a:Option Addr) (cap:Nat) (w:World),Calls P g #[.slice a 0 cap] w λe w'=>e=.returned (.tuple #[])/\w'=w)
  {K:ah->av->Prop} (hK:K (.dw []) (cJ σ b (.row (ts.map (.int .i64)) 0))):ak P (.fn g [] []) [.os b 0 zs.length 1] σ K:=by
 refine ak.sh ?_;intro X base β w vs h1 h2 h3 fr cs B4
 have tF : ¬ fn.name = "runtime.NumGoroutine" := by simpa using fe
 obtain⟨x,rfl⟩:∃x,vs = #[x]:=by
  simp at h2;exact se.1 h2
 have y8:=h3 0 (by simp);simp only[aY,bf,aV]at y8;have hx:(#[x]:Array Value).getD 0 undef=x:=rfl;rw[hx]at y8;have xO:∀(w':World) (M':Nat->Nat->Prop),cn w' M' β (.tuple #[]) (.dw []):=λw' M'=>.dw rfl λk hk=>by simp at hk
 have iz:∀us,(callFunc g us).run P w=.ok (.enter g us) w:=λus=>by simp[callFunc,hf,tF,hb]
 rcases y8.tV with⟨hz,a,L,hL,ko,rfl⟩|⟨L,cap,hL,ko,j8,AL,rfl⟩
 ·have F5:zs=[]:=bn hz;have uv:ts=[]:=bn (by omega);subst F5;subst uv;obtain⟨e,w',D3,⟨rfl,rfl⟩,hc,Ec,hl⟩:=h0 a 0 w (fr :: cs);rw[Ow xV]at hK;refine⟨_,σ,β,.tuple #[],w',hK,h1,xO _ _,Ext.refl _ _ _ _,ae _,Frame.enter P g _ .normal,fr :: cs,w',?_,Steps.trans hc (.one (step_leave_returned hl))⟩;simp only[stepG.apply,if_true,Sem.runT_eq,iz,GStep.bare_after,GStep.bare_go];split
  ·rename_i d s a k e;exact absurd e (B4 _ _ _ _ _)
  ·rfl
 ·obtain ⟨L',q1,q2,q3,cc,ec,q4,q5,q6,q7,q8⟩:=h1.cG b _ (la xV);obtain rfl:=aS (q1.symm.trans hL);have Ej:(zs.map (ah.int .i64)).length=zs.length:=by simp
  have eM:L'.n*L'.sz=L'.n:=by rw[ko,Nat.mul_one]
  have oQ:∀j,j<zs.length->cc.getD (L'.o+j) undef=.int .i64 (zs.getD j 0):=λj hj=>by
   have:=q8 j 0 (by omega) (by omega);rw[ko,Nat.mul_one,cF]at this;rw[show(zs.map (ah.int .i64)).getD j ah.undef=.int .i64 (zs.getD j 0) by simp[List.getD,hj]]at this;exact this.e7
  have Jm:L'.g<w.heap.size:=(aQ.1 q4).1;have hH:Sort.Holds (Value.int .i64) w L'.g (L'.o+0*L'.sz) zs.toArray:=λj hj=>by
   have qh:j<zs.length:=by simpa using hj
   rw[qX,cF];refine⟨?_,by simp[World.frozen?,q4]⟩;rw[cell_of_row _ _ _ _ _ _ q4,wm (by omega),oQ j qh,getElem!_pos zs.toArray j (by simpa using qh)];simp[List.getD,qh]
  obtain⟨e,w',D3,⟨rfl,n,os,rfl⟩,hc,Ec,hl⟩:=h w L'.g (L'.o+0*L'.sz) cap hH Jm (fr :: cs);rw[qX,cF]at hc hl;have j9:∀k,k<w.heap.size->k≠L'.g->(Sort.grow (Sort.putRow (Value.int .i64) (Sort.ahead w n) L'.g L'.o ts.toArray) os).heap[k]? = w.heap[k]?:=λk hk dL=>by
   rw[Sort.heap_grow_old _ _ (by rw[Sort.size_putRow];exact hk)];simp only[Sort.putRow,Sort.mapBlock,Sort.ahead];rw[jH,if_neg (gV dL)]
  have p_:(Sort.grow (Sort.putRow (Value.int .i64) (Sort.ahead w n) L'.g L'.o ts.toArray) os).heap[L'.g]? = some (.cells (Sort.putCells (Value.int .i64) L'.o ts.toArray cc) ec (0,0)):=by
   rw[Sort.heap_grow_old _ _ (by rw[Sort.size_putRow];exact Jm)];simp only[Sort.putRow,Sort.mapBlock,Sort.ahead];rw[jH,if_pos rfl,q4];rfl
  have Jc:(Sort.putCells (Value.int .i64) L'.o ts.toArray cc).size=cc.size:=by simp[Sort.putCells]
  have pn:∀o',L'.o<=o'->jR σ β L'.g o':=λo' Ek=>⟨b,_,L',la xV,hL,rfl,by simp only[bS.mut];omega⟩;obtain⟨k1,k2,k3,k4⟩:=GR h1 b L' (.row (ts.map (.int .i64)) 0) (σ':=cJ σ b (.row (ts.map (.int .i64)) 0)) (β':=β) (w':=Sort.grow (Sort.putRow (Value.int .i64) (Sort.ahead w n) L'.g L'.o ts.toArray) os) (GI _ _ _)
   (λc x hc hx=>⟨Cq _ _ _ hc hx,λLc Fl e=>hc (h1.inj c b x _ Lc L' (Cq _ _ _ hc hx) (la xV) Fl hL e)⟩) (DI _ _ _) hL (λ_ _=>rfl) (.inr hL)
   rfl rfl rfl (by simp) j9
   (λoff v gM vK=>by
    have aL:off<L'.o:=kq λhle=>vK (pn off hle);rw[cell_of_row _ _ _ _ _ _ p_];rw[cell_of_row _ _ _ _ _ _ q4]at gM;obtain⟨bx,hv⟩:=aQ.1 gM;rw[wm (by rw[Jc];exact bx),YD,if_neg (by omega),<-wm bx];exact gM)
   (λ_ vK=>absurd (pn _ (ae _)) (vK _)) (λoff hm=>.inl (pn off (by simp only[bS.mut]at hm;omega))) q3 q2
  have hrel:=k4 ⟨_,ec,p_,by rw[Jc];exact q5,by simp only[ao]at q6 ⊢;omega,λi hi=>by
    simp only[ao]at hi;rw[show(ts.map (ah.int .i64)).getD i ah.undef=.int .i64 (ts.getD i 0) by simp[List.getD,hi],ko];rfl,λi j hi hj=>by
    simp only[ao]at hi;obtain rfl:j=0:=by omega
    rw[show(ts.map (ah.int .i64)).getD i ah.undef=.int .i64 (ts.getD i 0) by simp[List.getD,hi],ko,Nat.mul_one,cF,YD];simp only[ao]at q6;rw[if_pos ⟨by omega,by omega,by omega⟩,show L'.o+i-L'.o=i by omega];exact .int _ _⟩
  refine⟨_,_,β,.tuple #[],_,hK,hrel,xO _ _,⟨k1.os,k1.tape,k1.output,k1.size,k1.cell,k1.block,k1.jq,λ_ _=>rfl⟩,DI _ _ _,Frame.enter P g _ .normal,fr :: cs,w,?_,Steps.trans hc (.one (step_leave_returned hl))⟩;have ho:L'.o+0*L'.sz=L'.o:=by omega
  simp only[aY,bf,ho];simp only[stepG.apply,if_true,Sem.runT_eq,iz,GStep.bare_after,GStep.bare_go];split
  ·rename_i d s a k e;exact absurd e (B4 _ _ _ _ _)
  ·rfl
end
end Go.dq
namespace Go.Proofs
open Go Go.dq
theorem W1' (i:Nat)(h:(i:Int)+1<9223372036854775808):IntKind.i64.wrap ((i:Int)+1)=((i+1:Nat):Int):=by
 rw[dt (by omega)]
 omega
mutual
def Tm.decEq:(a b:Tm)->Decidable (a=b)
 |.mk h ts,.mk k us=>match Int.instDecidableEq h k,Tm.Am ts us with
  |.isTrue e1,.isTrue e2=>.isTrue (by rw[e1,e2])
  |.isFalse e1,_=>.isFalse λe=>e1 (Tm.mk.inj e).1
  |_,.isFalse e2=>.isFalse λe=>e2 (Tm.mk.inj e).2
def Tm.Am:(a b:List Tm)->Decidable (a=b)
 |[],[]=>.isTrue rfl
 |[],_ :: _=>.isFalse λe=>by cases e
 |_ :: _,[]=>.isFalse λe=>by cases e
 |a :: l,b :: m=>match Tm.decEq a b,Tm.Am l m with
  |.isTrue e1,.isTrue e2=>.isTrue (by rw[e1,e2])
  |.isFalse e1,_=>.isFalse λe=>e1 (kZ e).1
  |_,.isFalse e2=>.isFalse λe=>e2 (kZ e).2
end
instance:DecidableEq Tm:=Tm.decEq
theorem UU (t:Tm):t=.mk t.head t.args:=by cases t;rfl
theorem n9 (t:Tm):t.size=1+Tm.bw t.args:=by cases t;simp[Tm.size,Tm.args]
theorem Xx {l:List Tm}{x:Tm}:((l++[x]).map Tm.aH).getD l.length .undef=x.aH:=by simp[List.getD]
theorem XV {l:List Tm}{x:Tm}:((l++[x]).map Tm.aH).take l.length=l.map Tm.aH:=by simp
theorem Yx8 {bs:Nat}{z:List ah}{k:KA}(hb:bs<=65536)(hz:z.length=2)(xs:List Tm):eE ⟨2,true,bs,z,k⟩ (xs.map Tm.aH):=by
 refine⟨λx hx=>?_,cR,hb,hz⟩;obtain⟨t,_,rfl⟩:=cN.1 hx;rw[dO];exact⟨rfl,rfl⟩
@[go_sem]theorem BO (xs:List Tm):eE ⟨2,true,32,[.int .i64 0,.a8],.struct⟩ (xs.map Tm.aH)=True:=eq_true (Yx8 (by decide) rfl xs)
theorem CB (a b:Tm) (ha:a.size<1000000000) (hb:b.size<1000000000):az Tryz.prog 103 [a.aH,b.aH] (.bool (decide (a=b))):=by
 refine az.begin (rs:=[.tmp 4]) (m:=54) 1000 Tryz.func103 rfl rfl rfl (by decide) trivial ?_;simp only[go_sem,cq];refine aC.draw [⟨none,[],[3]⟩,⟨some 2,[2],[3]⟩,⟨none,[],[2]⟩,⟨some 3,[3],[2]⟩,⟨none,[],[3]⟩] 2 4 mixed rfl rfl (by decide) ?_;simp only[go_sem,cM,ae,Nat.reduceLT];refine aC.g ?_;simp only[go_sem];refine aC.ep (ι:={p:List Tm×List Tm // p.1.length=p.2.length/\(p.1=p.2↔a=b)/\Tm.bw p.1<=a.size/\Tm.bw p.2<=b.size}) 1000
  (λp=>dV 56 [(4,.bool false),(5,.os 0 0 p.1.1.length 2),(6,.os 1 0 p.1.2.length 2)]) (λp=>[some (.row (p.1.1.map Tm.aH) 0),some (.row (p.1.2.map Tm.aH) 0)]) (λp=>Tm.bw p.1.1)
  ⟨([a],[b]),by simp[Tm.bw]⟩ [(0,2),(1,3)] ?_ (λ_=>by simp) ?_
 ·refine eL rfl ?_;simp only[go_sem,bC,bT,aI,aR,cq]
 ·rintro ⟨⟨L,R⟩,hlen,zf,sI,zW⟩;simp only at hlen zf sI zW;rcases List.eq_nil_or_concat L with rfl|⟨l,x,rfl⟩
  ·obtain rfl:R=[]:=bn hlen.symm;simp only[go_sem,bP,kY];refine aC.g ?_;simp only[go_sem];simp[zf.1 rfl]
  ·rcases List.eq_nil_or_concat R with rfl|⟨r,y,rfl⟩
   ·simp at hlen
   simp only[List.concat_eq_append,aA,aq,aF,br,Nat.add_right_cancel_iff]at hlen;simp only[List.concat_eq_append,Gr,Tm.bw,cF]at zf sI zW ⊢;have FJ:=mH l;have FU:=mH r;have oS:(0:Int)<((l.length+1:Nat):Int):=by omega
   have hw:IntKind.i64.wrap (((l.length+1:Nat):Int)-1)=(l.length:Int):=by rw[dt (by omega)];omega
   simp only[go_sem,aA,oS,hw];refine aC.draw [⟨none,[],[2,3]⟩,⟨none,[],[2,3]⟩,⟨none,[],[2,3]⟩,⟨none,[],[2,3]⟩,⟨none,[],[2,3]⟩,⟨none,[],[2,3]⟩,⟨none,[],[2,3]⟩,⟨none,[],[2,3]⟩,⟨some 2,[2],[3]⟩,⟨some 3,[3],[2]⟩,⟨none,[2],[]⟩,⟨none,[3],[]⟩] 2 4 mixed rfl rfl (by decide) ?_;have MJ:((l++[x]).map Tm.aH).getD r.length .undef=x.aH:=by rw[<-hlen];exact Xx
   have uW:((l++[x]).map Tm.aH).length=r.length+1:=by simp[hlen]
   have xk:((r++[y]).map Tm.aH).length=r.length+1:=by simp
   have ht1:((l++[x]).map Tm.aH).take r.length=l.map Tm.aH:=by rw[<-hlen];exact XV
   simp only[go_sem,cM,hlen,bh,Xx,MJ,uW,xk,dO]
   (repeat((with_reducible refine And.intro ?_ ?_);·omega))
   refine aC.g ?_;simp only[go_sem];refine aC.draw [] 4 4 mixed rfl rfl (by decide) ?_;simp only[go_sem,cM,bh]
   (repeat((with_reducible refine And.intro ?_ ?_);·omega))
   refine aC.g ?_;have qB:Tm.size x=1+Tm.bw x.args:=n9 x;have aav:Tm.size y=1+Tm.bw y.args:=n9 y;have hxa:=mH x.args;have yE:=mH y.args;by_cases c1:x.head=y.head
   ·by_cases c2:x.args.length=y.args.length
    ·have II:(x.args.length:Int)=y.args.length:=by omega
     simp only[go_sem,c1,II,ao];refine aC.draw [.no,.no,.no,⟨some 4,[0,4],[]⟩,⟨none,[],[0,4]⟩,⟨none,[],[0,4]⟩,⟨none,[],[0,4]⟩,⟨some 5,[1,5],[]⟩] 4 6 mixed rfl rfl (by decide) ?_;simp only[go_sem,cM,aA]
     (repeat((with_reducible refine And.intro ?_ ?_);·omega))
     refine aC.g ?_;rw[ht1,XV,<-cf,<-cf];refine⟨⟨(l++x.args,r++y.args),⟨by simp[hlen,c2],?_,?_,?_⟩⟩,[(0,4),(1,5)],eL rfl ?_,?_⟩
     ·simp only
      rw[<-zf];constructor
      ·intro e;obtain⟨e1,e2⟩:=rQ e hlen;rw[e1,UU x,UU y,c1,e2]
      ·intro e;obtain⟨e1,e2⟩:=rQ e hlen;simp only[gG,and_true]at e2;rw[e1,e2]
     ·simp only[Gr];omega
     ·simp only[Gr];omega
     ·simp only[go_sem,aA,bC,bT (bC _),hlen]
     ·simp only[Gr,Tm.bw];omega
    ·have II:¬(x.args.length:Int)=y.args.length:=by omega
     have dL:¬a=b:=by
      rw[<-zf];intro e;obtain⟨e1,e2⟩:=rQ e hlen;simp only[gG,and_true]at e2;exact c2 (by rw[e2])
     simp only[go_sem,c1,II];refine aC.g ?_;simp only[go_sem];simp[dL]
   ·have dL:¬a=b:=by
     rw[<-zf];intro e;obtain⟨e1,e2⟩:=rQ e hlen;simp only[gG,and_true]at e2;exact c1 (by rw[e2])
    simp only[go_sem,c1];refine aC.g ?_;simp only[go_sem];simp[dL]
end Go.Proofs
namespace Go.dq
open Go
def kE (P:Program)(g:FuncId)(args:List ah)(r0:ah)(xq:av):Prop:=cj P g args [] (λr σ'=>r=r0/\σ' = xq)/\r0.low xq.length/\bH xq.length xq
def up (n b:Nat):Nat:=b+n
def Dy (n:Nat)(τ:av):av:=τ.map (Option.map (eo (up n)))
section
variable {P:Program}{X:Nat->Nat->Prop}{base:Nat}{σ:av}{β β':Env}{w w':World}
theorem ak.tree {g:FuncId} {first captured args args':List ah} {K:ah->av->Prop} (bs:List Nat) (hp:mD (among bs) σ args' (first++args++captured))
  (h:cj P g args' (fw (among bs) 0 σ) K):ak P (.fn g first captured) args σ K:=by
 refine ak.sh ?_;intro X base β w vs h1 h2 h3 fr cs h4;have pG:=Cs (among bs) σ;generalize Bh:fw (among bs) 0 σ = mw at *
 have hf:=pG.p6;have zN:=h1.p6 hf;obtain⟨e1,e2⟩:=wA zN pG args' hp;have e3:∀k,k<args'.length->cn w (MT X mw β) β (vs.getD k undef) (args'.getD k .undef):=λk eZ=>(e2 k eZ).1 _ ((h3 k (by omega)).mono (DL hf) (λ_ _ h=>h));obtain⟨r',σ',β',v,w',g0,g1,g2,g3,g4,g5⟩:=h X base β w vs zN (by omega) e3 fr cs h4;refine⟨r',σ',β',v,w',g0,g1,g2,⟨g3.os,g3.tape,g3.output,g3.size,λg o v hc hn=>g3.cell g o v hc λhm=>hn (hm.p6 hf),λg hg hn=>g3.block g hg λo hm=>hn o (hm.p6 hf),λg o hm=>(g3.jq g o hm).imp (λh=>h.p6 hf) id,λb hb=>g3.env b (by rw[hf.len];exact hb)⟩,by rw[hf.len]at g4;exact g4,g5⟩
theorem cj.v {F:Frame->List Frame->Sem Next->World->Value->World->Prop}{g:FuncId}{args:List ah}{K:ah->av->Prop}(h:iZ P F g args σ K):dn P F (.fn g [] []) args σ K :=
 ak.sh (by simpa using h)
theorem dn.c {F:Frame->List Frame->Sem Next->World->Value->World->Prop} {g:FuncId} {args:List ah} {K:ah->av->Prop} (h:dn P F (.fn g [] []) args σ K):iZ P F g args σ K:=by
 intro X base β w vs h1 h2 h3 fr cs h4;obtain⟨r,σ',β',v,w',q,g1,g2,g3,g4,g5⟩:=h X base β w (.func (.func g) #[] #[]) vs h1 (.fn rfl rfl (λk hk=>by simp at hk) λk hk=>by simp at hk) h2 h3 fr cs h4;refine⟨r,σ',β',v,w',q,g1,g2,g3,g4,?_⟩;have:(do let d <-Deferred.ofValue (.func (.func g) #[] #[]) vs;invoke d.target d.args:Sem Next)=callFunc g vs:=by
  show callFunc g (#[]++vs++#[])=callFunc g vs;simp
 rw[<-this];exact g5
theorem Vd (n:Nat):om 0 n=up n:=funext λb=>by simp[om,up]
theorem kE.at {g:FuncId} {args:List ah} {r0:ah} {xq:av} (hc:kE P g args r0 xq) (hl:bG 0 args) {K:ah->av->Prop} (hk:K (ez (up σ.length) r0) (σ++Dy σ.length xq)):cj P g args σ K:=by
 refine dn.c ?_;have:=ak.Ez (P:=P) (σ:=[]) (τ:=σ) (f:=.fn g [] []) (args:=args) (K:=K) ⟨trivial,trivial⟩ hl trivial ((cj.v hc.1).mono ?_)
 ·simpa using this
 rintro r σ' ⟨rfl,rfl⟩;refine⟨σ',gL _,aj _,hc.2.2,hc.2.1,?_⟩;have e:nB ([]:av).length σ.length σ σ' = σ++Dy σ.length σ':=by
  simp[nB,Vd,Dy]
 rw[e];have e2:om ([]:av).length σ.length=up σ.length:=Vd _;rw[e2];exact hk
theorem ak.vN {g:FuncId} {first captured args args':List ah} {K:ah->av->Prop} {r0:ah} {xq:av} (bs:List Nat) (hc:kE P g args' r0 xq) (hp:mD (among bs) σ args' (first++args++captured)) (hl:bG 0 args')
  (hk:K (ez (up σ.length) r0) (fw (among bs) 0 σ++Dy σ.length xq)):ak P (.fn g first captured) args σ K:=by
 refine ak.tree bs hp (hc.at hl ?_);rw[H9];exact hk
theorem kE.begin {g:FuncId} {fn:Func} {c:Code} {args:List ah} {r0:ah} {xq:av} {m:Nat} {rs:List ResultVar} (n:Nat) (hf:P.funcs[g]? = some fn) (hb:fn.body=some c) (hr:fn.results.toList=rs) (hm:fn.ntmps-args.length=m)
  (fe : (fn.name == "runtime.NumGoroutine") = false) (h1 : r0.low xq.length) (h2 : bH xq.length xq)
  (h:fx P ⟨0,none⟩ (rL P rs (mI (λr σ'=>r=r0/\σ' = xq) 0)) n [.code c] .normal (args++List.replicate m .undef) []):kE P g args r0 xq :=
 ⟨cj.pW n hf hb hr hm fe h,h1,h2⟩
theorem CI {n:Nat}:Dy n []=[]:=rfl
theorem Cx {n:Nat}{τ:av}:Dy n (none :: τ)=none :: Dy n τ:=rfl
theorem CA {n:Nat}{b:bS}{τ:av}:Dy n (some b :: τ)=some (eo (up n) b):: Dy n τ:=rfl
theorem CM {π:Nat->Nat}{b o n s:Nat}:ez π (.os b o n s)=.os (π b) o n s:=rfl
theorem xv {π:Nat->Nat}{es:List ah}{fz:Nat}:eo π (.row es fz)=.row (eC π es) fz:=rfl
end
end Go.dq
namespace Go.Proofs
open Go Go.dq
def c9 (l:List (List Li)):List ah:=l.map λc=>.ps 5 (lits c)
theorem lP (l:List (List Li)):(c9 l).length=l.length:=by simp[c9]
theorem eh {n:Nat}(l:List (List Li)):bG n (c9 l):=wx λc _=>bI c
theorem yn {l:List (List Li)}{i:Nat}(h:i<l.length):(c9 l).getD i .undef=.ps 5 (lits l[i]):=by simp[c9,List.getD,h]
@[go_sem]theorem CJ (l:List Li):eE ⟨5,true,72,[.bool false,.int .i64 0,.a8,.int .i64 0,.a8],.struct⟩ (lits l)=True:=eq_true (by
 refine⟨λx hx=>?_,by decide,by decide,rfl⟩;obtain⟨t,_,rfl⟩:=cN.1 hx;rw[gf];exact⟨rfl,rfl⟩)
@[go_sem]theorem Yvi (l:List (List Li)):eE ⟨1,false,24,[.a8],.slice⟩ (c9 l)=True:=eq_true (by
 refine⟨λx hx=>?_,by decide,by decide,rfl⟩;obtain⟨t,_,rfl⟩:=cN.1 hx;exact⟨rfl,rfl⟩)
@[go_sem]theorem Ysi (l:List Int):eE ⟨1,false,8,[.int .i64 0],.int .i64⟩ (ints l)=True:=eq_true (by
 refine⟨λx hx=>?_,by decide,by decide,rfl⟩;obtain⟨t,_,rfl⟩:=cN.1 hx;exact⟨rfl,rfl⟩)
theorem HU (l:List Tm)(h:l≠[])(hl:l.length<=1000000000):kE Tryz.prog 200 [.ps 2 (l.map Tm.aH)] (.os 1 0 l.length 2) [none,some (.row (l.map Tm.aH) 0)]:=by
 have h0:¬l.length=0:=λe=>h (bn e);refine kE.begin (rs:=[.tmp 2]) (m:=7) 1000 Tryz.func200 rfl rfl rfl rfl (by simp[go_sem]) (by simp[go_sem,bC]) ?_;simp only[go_sem,ao,h0]
 (repeat((with_reducible refine And.intro ?_ ?_);·omega))
 rw[gy];exact⟨_,gL _,aj _,by simp[go_sem,bC],by simp[go_sem],by simp,rfl⟩
theorem Zwe:cj Tryz.prog 200 [.ps 2 []] [] (λr σ'=>r=.a8/\σ'=[]\/r=.os 1 0 0 2/\σ'=[none,some (.row [] 0)]):=by
 refine cj.pW (rs:=[.tmp 2]) (m:=7) 1000 Tryz.func200 rfl rfl rfl rfl ?_;simp only[go_sem];refine⟨?_,by simp[eE],?_⟩
 ·rw[gy];exact⟨[],gL _,ae _,trivial,trivial,.inl ⟨rfl,rfl⟩⟩
 ·rw[gy];exact⟨_,gL _,aj _,by simp[go_sem],by simp[go_sem],.inr ⟨rfl,rfl⟩⟩
theorem KN (l:List Li)(h:l≠[])(hl:l.length<=1000000000):kE Tryz.prog 72 [.ps 5 (lits l)] (.os 1 0 l.length 5) [none,some (.row (lits l) 0)]:=by
 have h0:¬l.length=0:=λe=>h (bn e);refine kE.begin (rs:=[.tmp 2]) (m:=7) 1000 Tryz.func72 rfl rfl rfl rfl (by simp[go_sem]) (by simp[go_sem,bI]) ?_;simp only[go_sem,dA,h0]
 (repeat((with_reducible refine And.intro ?_ ?_);·omega))
 rw[gy];exact⟨_,gL _,aj _,by simp[go_sem,bI],by simp[go_sem],by simp,rfl⟩
theorem WY (l:List (List Li))(h:l≠[])(hl:l.length<=1000000000):kE Tryz.prog 27 [.ps 1 (c9 l)] (.os 1 0 l.length 1) [none,some (.row (c9 l) 0)]:=by
 have h0:¬l.length=0:=λe=>h (bn e);refine kE.begin (rs:=[.tmp 2]) (m:=7) 1000 Tryz.func27 rfl rfl rfl rfl (by simp[go_sem]) (by simp[go_sem,eh]) ?_;simp only[go_sem,lP,h0]
 (repeat((with_reducible refine And.intro ?_ ?_);·omega))
 rw[gy];exact⟨_,gL _,aj _,by simp[go_sem,eh],by simp[go_sem],by simp,rfl⟩
theorem V2:cj Tryz.prog 27 [.ps 1 []] [] (λr σ'=>r=.a8/\σ'=[]\/r=.os 1 0 0 1/\σ'=[none,some (.row [] 0)]):=by
 refine cj.pW (rs:=[.tmp 2]) (m:=7) 1000 Tryz.func27 rfl rfl rfl rfl ?_;simp only[go_sem];refine⟨?_,by simp[eE],?_⟩
 ·rw[gy];exact⟨[],gL _,ae _,trivial,trivial,.inl ⟨rfl,rfl⟩⟩
 ·rw[gy];exact⟨_,gL _,aj _,by simp[go_sem],by simp[go_sem],.inr ⟨rfl,rfl⟩⟩
theorem Zwx (l:List Int)(h:l≠[])(hl:l.length<=1000000000):kE Tryz.prog 207 [.ps 1 (ints l)] (.os 1 0 l.length 1) [none,some (.row (ints l) 0)]:=by
 have h0:¬l.length=0:=λe=>h (bn e);refine kE.begin (rs:=[.tmp 2]) (m:=7) 1000 Tryz.func207 rfl rfl rfl rfl (by simp[go_sem]) (by simp[go_sem,cY]) ?_;simp only[go_sem,ja,h0]
 (repeat((with_reducible refine And.intro ?_ ?_);·omega))
 rw[gy];exact⟨_,gL _,aj _,by simp[go_sem,cY],by simp[go_sem],by simp,rfl⟩
theorem Zun:cj Tryz.prog 207 [.ps 1 []] [] (λr σ'=>r=.a8/\σ'=[]\/r=.os 1 0 0 1/\σ'=[none,some (.row [] 0)]):=by
 refine cj.pW (rs:=[.tmp 2]) (m:=7) 1000 Tryz.func207 rfl rfl rfl rfl ?_;simp only[go_sem];refine⟨?_,by simp[eE],?_⟩
 ·rw[gy];exact⟨[],gL _,ae _,trivial,trivial,.inl ⟨rfl,rfl⟩⟩
 ·rw[gy];exact⟨_,gL _,aj _,by simp[go_sem],by simp[go_sem],.inr ⟨rfl,rfl⟩⟩
theorem CG {σ:av}{b:Nat}{x:bS}(h:bW σ b=some x):b < σ.length:=(aN.1 (la h)).1
theorem Ybo (σ:av) (c:ah) (p:Li->Bool) (l:List Li) (hl:l.length<2 ^ 62) (hs:bH σ.length σ) (hc:c.low σ.length)
  (hp:∀(i:Nat) (h:i<l.length),ak Tryz.prog c [l[i].aH] σ (λr σ'=>r=.bool (p l[i])/\σ' = σ)) :
  ak Tryz.prog (.fn 101 [] []) [.ps 5 (lits l),c] σ (λr σ'=>r=.int .i64 (eF p l 0)/\σ' = σ):=by
 refine ak.begin (rs:=[.tmp 4]) (m:=17) 1000 Tryz.func101 rfl rfl rfl rfl rfl ?_;simp only[go_sem,dA];refine aC.cA (ι:={i:Nat // i<=l.length/\eF p (l.drop i) i=eF p l 0}) 1000 (λi=>dV 19 [(0,.ps 5 (lits l)),(1,c),(7,.int .i64 l.length),(8,.int .i64 i.1)]) (λ_=>σ) (λi=>l.length-i.1) ⟨0,by simp⟩ ?_ (λ_=>ae _) ?_
 ·simp only[go_sem,bI,dA,hc,hs];exact gL σ
 ·rintro ⟨i,hi,aD⟩;by_cases bx:(i:Int)<l.length
  ·have aL:i<l.length:=by omega
   have hd:eF p (l.drop i) i=if p l[i] then (i:Int) else eF p (l.drop (i+1)) ((i:Int)+1):=by
    rw[ai aL];rfl
   simp only[go_sem,bx,dA,qs aL,gf]
   (repeat((with_reducible refine And.intro ?_ ?_);·omega))
   refine(hp i aL).mono ?_;rintro r σ' ⟨rfl,rfl⟩;refine aC.g ?_;cases e:p l[i] with
   |true =>
    rw[hd,e,if_pos rfl]at aD;simp only[go_sem];refine aC.g ?_;simp only[go_sem,<-aD];rw[gy];exact⟨σ',gL σ',ae _,hs,trivial,rfl,rfl⟩
   |false =>
    rw[hd,e,if_neg (by decide)]at aD;simp only[go_sem];refine⟨⟨i+1,aL,aD⟩,?_,by simp only;omega⟩;simp only[go_sem,bI,hc,hs];rw[dt (by omega)];exact⟨rfl,gL σ'⟩
  ·have dm:i=l.length:=by omega
   subst dm;rw[aJ]at aD;simp only[go_sem,bx];refine aC.g ?_;simp only[go_sem,<-aD];rw[gy];exact⟨σ,gL σ,ae _,hs,trivial,rfl,rfl⟩
theorem Kv (σ:av) (c:ah) (p:Li->Bool) (l:List Li) (hl:l.length<2 ^ 62) (hs:bH σ.length σ) (hc:c.low σ.length)
  (hp:∀(i:Nat) (h:i<l.length),ak Tryz.prog c [l[i].aH] σ (λr σ'=>r=.bool (p l[i])/\σ' = σ)) :
  ak Tryz.prog (.fn 63 [] []) [.ps 5 (lits l),c] σ (λr σ'=>r=.bool (l.any p)/\σ' = σ):=by
 refine ak.begin (rs:=[.tmp 4]) (m:=7) 1000 Tryz.func63 rfl rfl rfl rfl rfl ?_;simp only[go_sem];refine(Ybo σ c p l hl hs hc hp).mono ?_;rintro r σ' ⟨rfl,rfl⟩;refine aC.g ?_;simp only[go_sem];rw[gy,ET p l 0 (by omega)];exact⟨σ',gL σ',ae _,hs,trivial,rfl,rfl⟩
theorem VW (σ:av) {b:Nat} (c:ah) (p:Li->Bool) (l:List Li) (hb:bW σ b=some (.row (lits l) 0)) (hl:l.length<2 ^ 62) (hs:bH σ.length σ) (hc:c.low σ.length)
  (hp:∀(i:Nat) (h:i<l.length),ak Tryz.prog c [l[i].aH] σ (λr σ'=>r=.bool (p l[i])/\σ' = σ)) :
  ak Tryz.prog (.fn 101 [] []) [.os b 0 l.length 5,c] σ (λr σ'=>r=.int .i64 (eF p l 0)/\σ' = σ):=by
 refine ak.begin (rs:=[.tmp 4]) (m:=17) 1000 Tryz.func101 rfl rfl rfl rfl rfl ?_;simp only[go_sem,dA];refine aC.cA (ι:={i:Nat // i<=l.length/\eF p (l.drop i) i=eF p l 0}) 1000 (λi=>dV 19 [(0,.os b 0 l.length 5),(1,c),(7,.int .i64 l.length),(8,.int .i64 i.1)]) (λ_=>σ) (λi=>l.length-i.1) ⟨0,by simp⟩ ?_ (λ_=>ae _) ?_
 ·simp only[go_sem,bI,dA,hc,hs];exact⟨gL σ,CG hb⟩
 ·rintro ⟨i,hi,aD⟩;by_cases bx:(i:Int)<l.length
  ·have aL:i<l.length:=by omega
   have hd:eF p (l.drop i) i=if p l[i] then (i:Int) else eF p (l.drop (i+1)) ((i:Int)+1):=by
    rw[ai aL];rfl
   simp only[go_sem,bx,dA,qs aL,gf,hb]
   (repeat((with_reducible refine And.intro ?_ ?_);·omega))
   refine(hp i aL).mono ?_;rintro r σ' ⟨rfl,rfl⟩;refine aC.g ?_;cases e:p l[i] with
   |true =>
    rw[hd,e,if_pos rfl]at aD;simp only[go_sem];refine aC.g ?_;simp only[go_sem,<-aD];rw[gy];exact⟨σ',gL σ',ae _,hs,trivial,rfl,rfl⟩
   |false =>
    rw[hd,e,if_neg (by decide)]at aD;simp only[go_sem];refine⟨⟨i+1,aL,aD⟩,?_,by simp only;omega⟩;simp only[go_sem,bI,hc,hs];rw[dt (by omega)];exact⟨rfl,gL σ',CG hb⟩
  ·have dm:i=l.length:=by omega
   subst dm;rw[aJ]at aD;simp only[go_sem,bx];refine aC.g ?_;simp only[go_sem,<-aD];rw[gy];exact⟨σ,gL σ,ae _,hs,trivial,rfl,rfl⟩
theorem WM (σ:av) (c:ah) (p:Tm->Bool) (l:List Tm) (hl:l.length<2 ^ 62) (hs:bH σ.length σ) (hc:c.low σ.length)
  (hp:∀(i:Nat) (h:i<l.length),ak Tryz.prog c [l[i].aH] σ (λr σ'=>r=.bool (p l[i])/\σ' = σ)) :
  ak Tryz.prog (.fn 174 [] []) [.ps 2 (l.map Tm.aH),c] σ (λr σ'=>r=.int .i64 (eF p l 0)/\σ' = σ):=by
 refine ak.begin (rs:=[.tmp 4]) (m:=17) 1000 Tryz.func174 rfl rfl rfl rfl rfl ?_;simp only[go_sem,ao];refine aC.cA (ι:={i:Nat // i<=l.length/\eF p (l.drop i) i=eF p l 0}) 1000 (λi=>dV 19 [(0,.ps 2 (l.map Tm.aH)),(1,c),(7,.int .i64 l.length),(8,.int .i64 i.1)]) (λ_=>σ) (λi=>l.length-i.1) ⟨0,by simp⟩ ?_ (λ_=>ae _) ?_
 ·simp only[go_sem,bC,ao,hc,hs];exact gL σ
 ·rintro ⟨i,hi,aD⟩;by_cases bx:(i:Int)<l.length
  ·have aL:i<l.length:=by omega
   have hd:eF p (l.drop i) i=if p l[i] then (i:Int) else eF p (l.drop (i+1)) ((i:Int)+1):=by
    rw[ai aL];rfl
   simp only[go_sem,bx,ao,jT aL,dO]
   (repeat((with_reducible refine And.intro ?_ ?_);·omega))
   have JP:=hp i aL;rw[cq]at JP;refine JP.mono ?_;rintro r σ' ⟨rfl,rfl⟩;refine aC.g ?_;cases e:p l[i] with
   |true =>
    rw[hd,e,if_pos rfl]at aD;simp only[go_sem];refine aC.g ?_;simp only[go_sem,<-aD];rw[gy];exact⟨σ',gL σ',ae _,hs,trivial,rfl,rfl⟩
   |false =>
    rw[hd,e,if_neg (by decide)]at aD;simp only[go_sem];refine⟨⟨i+1,aL,aD⟩,?_,by simp only;omega⟩;simp only[go_sem,bC,hc,hs];rw[dt (by omega)];exact⟨rfl,gL σ'⟩
  ·have dm:i=l.length:=by omega
   subst dm;rw[aJ]at aD;simp only[go_sem,bx];refine aC.g ?_;simp only[go_sem,<-aD];rw[gy];exact⟨σ,gL σ,ae _,hs,trivial,rfl,rfl⟩
theorem Nk (σ:av) (c:ah) (p:Tm->Bool) (l:List Tm) (hl:l.length<2 ^ 62) (hs:bH σ.length σ) (hc:c.low σ.length)
  (hp:∀(i:Nat) (h:i<l.length),ak Tryz.prog c [l[i].aH] σ (λr σ'=>r=.bool (p l[i])/\σ' = σ)) :
  ak Tryz.prog (.fn 144 [] []) [.ps 2 (l.map Tm.aH),c] σ (λr σ'=>r=.bool (l.any p)/\σ' = σ):=by
 refine ak.begin (rs:=[.tmp 4]) (m:=7) 1000 Tryz.func144 rfl rfl rfl rfl rfl ?_;simp only[go_sem];refine(WM σ c p l hl hs hc hp).mono ?_;rintro r σ' ⟨rfl,rfl⟩;refine aC.g ?_;simp only[go_sem];rw[gy,ET p l 0 (by omega)];exact⟨σ',gL σ',ae _,hs,trivial,rfl,rfl⟩
theorem Zwn (σ:av) {b:Nat} (c:ah) (p:Tm->Bool) (l:List Tm) (hb:bW σ b=some (.row (l.map Tm.aH) 0)) (hl:l.length<2 ^ 62) (hs:bH σ.length σ) (hc:c.low σ.length)
  (hp:∀(i:Nat) (h:i<l.length),ak Tryz.prog c [l[i].aH] σ (λr σ'=>r=.bool (p l[i])/\σ' = σ)) :
  ak Tryz.prog (.fn 174 [] []) [.os b 0 l.length 2,c] σ (λr σ'=>r=.int .i64 (eF p l 0)/\σ' = σ):=by
 refine ak.begin (rs:=[.tmp 4]) (m:=17) 1000 Tryz.func174 rfl rfl rfl rfl rfl ?_;simp only[go_sem,ao];refine aC.cA (ι:={i:Nat // i<=l.length/\eF p (l.drop i) i=eF p l 0}) 1000 (λi=>dV 19 [(0,.os b 0 l.length 2),(1,c),(7,.int .i64 l.length),(8,.int .i64 i.1)]) (λ_=>σ) (λi=>l.length-i.1) ⟨0,by simp⟩ ?_ (λ_=>ae _) ?_
 ·simp only[go_sem,bC,ao,hc,hs];exact⟨gL σ,CG hb⟩
 ·rintro ⟨i,hi,aD⟩;by_cases bx:(i:Int)<l.length
  ·have aL:i<l.length:=by omega
   have hd:eF p (l.drop i) i=if p l[i] then (i:Int) else eF p (l.drop (i+1)) ((i:Int)+1):=by
    rw[ai aL];rfl
   simp only[go_sem,bx,ao,jT aL,dO,hb]
   (repeat((with_reducible refine And.intro ?_ ?_);·omega))
   have JP:=hp i aL;rw[cq]at JP;refine JP.mono ?_;rintro r σ' ⟨rfl,rfl⟩;refine aC.g ?_;cases e:p l[i] with
   |true =>
    rw[hd,e,if_pos rfl]at aD;simp only[go_sem];refine aC.g ?_;simp only[go_sem,<-aD];rw[gy];exact⟨σ',gL σ',ae _,hs,trivial,rfl,rfl⟩
   |false =>
    rw[hd,e,if_neg (by decide)]at aD;simp only[go_sem];refine⟨⟨i+1,aL,aD⟩,?_,by simp only;omega⟩;simp only[go_sem,bC,hc,hs];rw[dt (by omega)];exact⟨rfl,gL σ',CG hb⟩
  ·have dm:i=l.length:=by omega
   subst dm;rw[aJ]at aD;simp only[go_sem,bx];refine aC.g ?_;simp only[go_sem,<-aD];rw[gy];exact⟨σ,gL σ,ae _,hs,trivial,rfl,rfl⟩
theorem Ycu (σ:av) (c:ah) (p:Int->Bool) (l:List Int) (hl:l.length<2 ^ 62) (hs:bH σ.length σ) (hc:c.low σ.length)
  (hp:∀(i:Nat) (h:i<l.length),ak Tryz.prog c [(.int .i64 l[i])] σ (λr σ'=>r=.bool (p l[i])/\σ' = σ)) :
  ak Tryz.prog (.fn 185 [] []) [.ps 1 (ints l),c] σ (λr σ'=>r=.int .i64 (eF p l 0)/\σ' = σ):=by
 refine ak.begin (rs:=[.tmp 4]) (m:=17) 1000 Tryz.func185 rfl rfl rfl rfl rfl ?_;simp only[go_sem,ja];refine aC.cA (ι:={i:Nat // i<=l.length/\eF p (l.drop i) i=eF p l 0}) 1000 (λi=>dV 19 [(0,.ps 1 (ints l)),(1,c),(7,.int .i64 l.length),(8,.int .i64 i.1)]) (λ_=>σ) (λi=>l.length-i.1) ⟨0,by simp⟩ ?_ (λ_=>ae _) ?_
 ·simp only[go_sem,cY,ja,hc,hs];exact gL σ
 ·rintro ⟨i,hi,aD⟩;by_cases bx:(i:Int)<l.length
  ·have aL:i<l.length:=by omega
   have hd:eF p (l.drop i) i=if p l[i] then (i:Int) else eF p (l.drop (i+1)) ((i:Int)+1):=by
    rw[ai aL];rfl
   simp only[go_sem,bx,ja,vu aL,YC]
   (repeat((with_reducible refine And.intro ?_ ?_);·omega))
   refine(hp i aL).mono ?_;rintro r σ' ⟨rfl,rfl⟩;refine aC.g ?_;cases e:p l[i] with
   |true =>
    rw[hd,e,if_pos rfl]at aD;simp only[go_sem];refine aC.g ?_;simp only[go_sem,<-aD];rw[gy];exact⟨σ',gL σ',ae _,hs,trivial,rfl,rfl⟩
   |false =>
    rw[hd,e,if_neg (by decide)]at aD;simp only[go_sem];refine⟨⟨i+1,aL,aD⟩,?_,by simp only;omega⟩;simp only[go_sem,cY,hc,hs];rw[dt (by omega)];exact⟨rfl,gL σ'⟩
  ·have dm:i=l.length:=by omega
   subst dm;rw[aJ]at aD;simp only[go_sem,bx];refine aC.g ?_;simp only[go_sem,<-aD];rw[gy];exact⟨σ,gL σ,ae _,hs,trivial,rfl,rfl⟩
theorem Zo9 (σ:av) (c:ah) (p:Int->Bool) (l:List Int) (hl:l.length<2 ^ 62) (hs:bH σ.length σ) (hc:c.low σ.length)
  (hp:∀(i:Nat) (h:i<l.length),ak Tryz.prog c [(.int .i64 l[i])] σ (λr σ'=>r=.bool (p l[i])/\σ' = σ)) :
  ak Tryz.prog (.fn 163 [] []) [.ps 1 (ints l),c] σ (λr σ'=>r=.bool (l.any p)/\σ' = σ):=by
 refine ak.begin (rs:=[.tmp 4]) (m:=7) 1000 Tryz.func163 rfl rfl rfl rfl rfl ?_;simp only[go_sem];refine(Ycu σ c p l hl hs hc hp).mono ?_;rintro r σ' ⟨rfl,rfl⟩;refine aC.g ?_;simp only[go_sem];rw[gy,ET p l 0 (by omega)];exact⟨σ',gL σ',ae _,hs,trivial,rfl,rfl⟩
end Go.Proofs
namespace Go.dq
open Go
theorem cn.tY {w:World} {M:Nat->Nat->Prop} {β β':Env} {π:Nat->Nat} {n:Nat} {v:Value} {a:ah} (h:cn w M β' v a):a.low n->(∀b,b<n->β (π b) = β' b)->cn w M β v (dq.ez π a):=by
 intro hl hβ
 induction h with
 |undef v=>exact .undef v
 |bool b=>exact .bool b
 |jL b=>exact .jL b
 |int k n=>exact .int k n
 |str s=>exact .str s
 |gJ=>exact .gJ
 |ptr h=>exact .ptr ((hβ _ hl).trans h)
 |rp h=>exact .rp ((hβ _ hl).trans h)
 | @pp g o cs cv hc _ ih =>
  simp only[dq.ez];refine .pp cv (λk hk=>hc k (by rw[kr]at hk;exact hk)) λk hk=>?_;rw[kr]at hk;rw[mV];exact ih k hk (jZ hl k)
 |a8 a=>exact .a8 a
 | @ps a cap sz es cv j8 eM hc ha _ ih =>
  simp only[dq.ez];have e:(eC π es).length=es.length:=kr π es;rw[<-e];refine .ps cv (by rw[e];exact j8) (λi hi=>?_) (λi j hi hj=>hc i j (by rw[e]at hi;exact hi) hj) (λh0=>ha (by rw[e]at h0;exact h0)) (λi j hi hj=>?_)
  ·rw[mV,DS,kr];exact eM i (by rw[e]at hi;exact hi)
  ·rw[mV,DS,mV];exact ih i j (by rw[e]at hi;exact hi) hj (jZ (GL (jZ hl i)) j)
 |vg a h=>exact .vg a ((hβ _ hl).trans h)
 |os h h1 h2=>exact .os ((hβ _ hl).trans h) h1 h2
 |ve a h=>exact .ve a ((hβ _ hl).trans h)
 |oc h h1 h2=>exact .oc ((hβ _ hl).trans h) h1 h2
 |fU=>exact .fU
 |fn h1 h2 _ _ lZ qj =>
  simp only[dq.ez];refine .fn (by rw[kr];exact h1) (by rw[kr];exact h2) (λk hk=>?_) (λk hk=>?_)
  ·rw[kr]at hk;rw[mV];exact lZ k hk (jZ hl.1 k)
  ·rw[kr]at hk;rw[mV];exact qj k hk (jZ hl.2 k)
 |ni h=>exact .ni ((hβ _ hl).trans h)
 |dj=>exact .dj
 |map h=>exact .map ((hβ _ hl).trans h)
 |pm hg hm h1 h2 _ _ hb lZ qj =>
  simp only[dq.ez];refine .pm hg hm (by rw[kr];exact h1) (by rw[kr,kr];exact h2) (λk hk=>?_) (λk hk=>?_) hb
  ·rw[kr]at hk;rw[mV];exact lZ k hk (jZ hl.1 k)
  ·rw[kr]at hk;rw[mV];exact qj k hk (jZ hl.2 k)
 |it h=>exact .it ((hβ _ hl).trans h)
 |agg h _ ih =>
  simp only[dq.ez];refine .agg (by rw[kr];exact h) λk hk=>?_;rw[kr]at hk;rw[mV];exact ih k hk (jZ hl k)
 |dw h _ ih =>
  simp only[dq.ez];refine .dw (by rw[kr];exact h) λk hk=>?_;rw[kr]at hk;rw[mV];exact ih k hk (jZ hl k)
 |jv=>exact .jv
 |iface _ ih=>exact .iface (ih hl)
 |qf v=>exact .qf v
section
variable {P:Program}
theorem ak.Sv {F:Frame->List Frame->Sem Next->World->Value->World->Prop} {f:ah} {args:List ah} {K:ah->av->Prop} {Z:av} {i:Nat} {B:bS} (hZ:∀b x,Z[b]? = some (some x)↔b=i/\B=x) (hB:B.low 0) (hf:f.low 0) (ha:bG 1 args)
  (h:dn P F f args [some B] (λr σ'=>r.low 1/\∃B',σ'=[some B']/\B'.low 0/\K (ez (λ_=>i) r) (Z.set i (some B')))):dn P F f (eC (λ_=>i) args) Z K:=by
 intro X base β w vf vs h1 ou h2 h3 fr cs h4;rw[kr]at h2 h3;obtain⟨L,l1,l2,l3,l4⟩:=h1.cG i B ((hZ i B).2 ⟨rfl,rfl⟩);have hiZ:i<Z.length:=(aN.1 ((hZ i B).2 ⟨rfl,rfl⟩)).1;have e0:kJ β (λ_=>i) 1 0=some L:=l1;have hm:∀g o,jR Z β g o↔jR [some B] (kJ β (λ_=>i) 1) g o:=λg o=>by
  constructor
  ·rintro⟨b,x,L',m1,m2,m3,m4⟩;obtain⟨rfl,rfl⟩:=(hZ b x).1 m1;exact⟨0,B,L',rfl,m2,m3,m4⟩
  ·rintro⟨b,x,L',m1,m2,m3,m4⟩;obtain⟨rfl,rfl⟩:=Io.1 m1;exact⟨i,B,L',(hZ i B).2 ⟨rfl,rfl⟩,m2,m3,m4⟩
 have hM:MT X [some B] (kJ β (λ_=>i) 1)=MT X Z β:=funext λg=>funext λo=>propext (or_congr Iff.rfl (hm g o).symm);have hr:c8 X base [some B] (kJ β (λ_=>i) 1) w:=by
  refine⟨λb hb=>?_,λb x hb=>?_,λb b' x y L' L'' e1 e2 _ _ _=>?_,h1.size,h1.sc,h1.gl⟩
  ·simp only[dN]at hb;exact if_neg (by omega)
  ·obtain⟨rfl,rfl⟩:=Io.1 hb;refine⟨L,e0,l2,l3,?_⟩;rw[hM];exact ig.low (n:=0) (λb hb=>absurd hb (by omega)) l4 hB
  ·rw[(Io.1 e1).1,(Io.1 e2).1]
 have pG:cn w (MT X Z β) (kJ β (λ_=>i) 1) vf f:=cn.low (n:=0) (λb hb=>absurd hb (by omega)) ou hf;have ha':∀k,k<args.length->cn w (MT X Z β) (kJ β (λ_=>i) 1) (vs.getD k undef) (args.getD k .undef):=λk hk=>by
  have:=h3 k hk;rw[mV]at this;exact cn.ez this _ rfl (jZ ha k)
 rw [<-hM]at pG ha';obtain⟨r,σ',β',v,w',⟨q1,B',rfl,q2,q3⟩,g1,g2,g3,g4,g5⟩:=h X base _ w vf vs hr pG h2 ha' fr cs h4;have Mi : β' 0=some L:=(g3.env 0 Nat.one_pos).trans e0;have I4:∀b x,(Z.set i (some B'))[b]? = some (some x)↔b=i/\B'=x:=λb x=>by
  by_cases hb:b=i
  ·subst hb;rw[gT hiZ];simp
  ·rw[b_ (λe=>hb e.symm)];constructor
   ·intro e;exact absurd ((hZ b x).1 e).1 hb
   ·intro e;exact absurd e.1 hb
 have Db:∀g o,jR (Z.set i (some B')) β g o↔jR [some B'] β' g o:=λg o=>by
  constructor
  ·rintro⟨b,x,L',m1,m2,m3,m4⟩;obtain⟨rfl,rfl⟩:=(I4 b x).1 m1;obtain rfl:=aS (l1.symm.trans m2);exact⟨0,B',L,rfl,Mi,m3,m4⟩
  ·rintro⟨b,x,L',m1,m2,m3,m4⟩;obtain⟨rfl,rfl⟩:=Io.1 m1;obtain rfl:=aS (Mi.symm.trans m2);exact⟨i,B',L,(I4 i B').2 ⟨rfl,rfl⟩,l1,m3,m4⟩
 have I1:MT X [some B'] β'=MT X (Z.set i (some B')) β:=funext λg=>funext λo=>propext (or_congr Iff.rfl (Db g o).symm);refine⟨_,Z.set i (some B'),β,v,w',q3,?_,?_,?_,by simp,g5⟩
 ·refine⟨λb hb=>h1.o_ b (by simpa using hb),λb x hb=>?_,λb b' x y L' L'' e1 e2 _ _ _=>?_,g1.size,g1.sc,g1.gl⟩
  ·obtain⟨rfl,rfl⟩:=(I4 b x).1 hb;obtain⟨L',k1,k2,k3,k4⟩:=g1.cG 0 B' rfl;obtain rfl:=aS (Mi.symm.trans k1);refine⟨L,l1,k2,k3,?_⟩;rw[<-I1];exact ig.low (n:=0) (λb hb=>absurd hb (by omega)) k4 q2
  ·rw[((I4 _ _).1 e1).1,((I4 _ _).1 e2).1]
 ·rw[<-I1];exact g2.tY (π:=λ_=>i) q1 λb hb=>by obtain rfl:b=0:=(by omega);exact l1.trans Mi.symm
 ·exact⟨g3.os,g3.tape,g3.output,g3.size,λg o x hc hn=>g3.cell g o x hc λhx=>hn ((hm g o).2 hx),λg hg hn=>g3.block g hg λo hx=>hn o ((hm g o).2 hx),λg o hx=>(g3.jq g o ((Db g o).1 hx)).imp (hm g o).2 id,λ_ _=>rfl⟩
theorem ak.CQ {F:Frame->List Frame->Sem Next->World->Value->World->Prop} {f:ah} {args:List ah} {K:ah->av->Prop} {σ:av} (i:Nat) {B:bS} (hi : σ[i]? = some (some B)) (hB:B.low 0) (hf:f.low 0) (ha:bG 1 args)
  (h:dn P F f args [some B] (λr σ'=>r.low 1/\∃B',σ'=[some B']/\B'.low 0/\K (ez (λ_=>i) r) (σ.set i (some B')))):dn P F f (eC (λ_=>i) args) σ K:=by
 have bx:i < σ.length:=(aN.1 hi).1;refine ak.frame (λb=>decide (b=i)) (K':=λr jO=>∃B',jO=(fB (λb=>decide (b=i)) 0 σ).set i (some B')/\K r (σ.set i (some B'))) ?_ ?_
 ·refine ak.Sv (B:=B) ?_ hB hf ha (h.mono ?_)
  ·intro b x;rw[ym,br];by_cases hb:b=i
   ·subst hb;simp[hi]
   ·simp[hb]
  ·rintro r σ' ⟨q1,B',rfl,q2,q3⟩;exact⟨q1,B',rfl,q2,B',rfl,q3⟩
 ·rintro r σ' ⟨B',rfl,hk⟩;refine⟨λb hb hv=>?_,?_⟩
  ·simp only[decide_eq_false_iff_not]at hv;rw[b_ (λe=>hv e.symm),ym,br,ax hb];simp[hv]
  ·have e:jb (λb=>decide (b=i)) 0 ((fB (λb=>decide (b=i)) 0 σ).set i (some B')) σ = σ.set i (some B'):=by
    refine bZ λb=>?_;rw[GJ (λb=>decide (b=i)) ((fB (λb=>decide (b=i)) 0 σ).set i (some B')) σ 0 b (by rw[bg,uj];exact ae _),br];by_cases hb:b=i
    ·subst hb;rw[if_neg (by simp),gT (by rw[uj];exact bx),gT bx]
    ·by_cases qS:b < σ.length
     ·rw[if_pos ⟨qS,by simpa using hb⟩,b_ (λe=>hb e.symm)]
     ·rw[if_neg (λh=>qS h.1),bB (by rw[bg,uj];omega),bB (by rw[bg];omega)]
   rw[e];exact hk
def ug (K:ah->av->Prop)(n:Nat)(r0:ah)(σ':av):Prop:=∃r,pT (λ_=>true) σ' r (tU r0)/\r.low 0/\K r (List.replicate n none)
theorem OY {n b:Nat}{x:bS}:¬(List.replicate n (none:Option bS))[b]? = some (some x):=by
 rw[dz];split<;>simp
theorem cj.ug {F:Frame->List Frame->Sem Next->World->Value->World->Prop}{σ:av}{g:FuncId}{args:List ah}{K:ah->av->Prop}(h:iZ P F g args σ (ug K σ.length)):iZ P F g args σ K:=by
 intro X base β w vs h1 h2 h3 fr cs h4;obtain⟨r0,σ',β',v,w',⟨r,k1,k5,k6⟩,g1,g2,g3,g4,g5⟩:=h X base β w vs h1 h2 h3 fr cs h4;have hf:=Cs (λ_=>true) σ';generalize Bh:fw (λ_=>true) 0 σ' = mw at hf;have En:=g1.p6 hf.p6;have sU:=(Ip En hf r k1).1 v (S3 (g2.mono (DL hf.p6) (λ_ _ h=>h)));have hle:zY (List.replicate σ.length none) mw:=λb x hb=>absurd hb OY;have hl:(List.replicate σ.length (none:Option bS)).length = σ.length:=by simp
 have lg:Bm σ.length (List.replicate σ.length none):=λb x hb=>absurd hb OY;have hs:=En.drop hle hl lg;have tK:=cn.drop sU hle hl (oJ (aj _) k5);exact⟨r,_,_,v,w',k6,hs,tK,g3.drop (σ':=List.replicate σ.length none) (λb x hb=>absurd hb OY) hl (ae _),by simp,g5⟩
@[go_sem]theorem Xbr {b o n s:Nat}:tU (.os b o n s)=.os b o n s:=rfl
@[go_sem]theorem Xbp {b o n c s:Nat}:tU (.oc b o n c s)=.os b o n s:=rfl
@[go_sem]theorem Yyb:tU .a8=.a8:=rfl
@[go_sem]theorem Xb2 {s:Nat}{l:List ah}:tU (.ps s l)=.ps s l:=rfl
theorem Gp {K:ah->av->Prop}{n:Nat}{r0:ah}{σ':av}:dq.ug K n r0 σ' = ∃r,pT (λ_=>true) σ' r (tU r0)/\r.low 0/\K r (List.replicate n none):=rfl
theorem cj.xy {g:FuncId} {fn:Func} {c:Code} {σ:av} {args:List ah} {K:ah->av->Prop} {m:Nat} {rs:List ResultVar} (n:Nat) (hf:P.funcs[g]? = some fn) (hb:fn.body=some c) (hr:fn.results.toList=rs) (hm:fn.ntmps-args.length=m)
  (fe : (fn.name == "runtime.NumGoroutine") = false)
  (h:fx P ⟨σ.length,Option.none⟩ (rL P rs (dq.ug K σ.length)) n [.code c] .normal (args++List.replicate m .undef) σ):cj P g args σ K:=cj.ug (cj.start n hf hb hr hm fe h)
end
end Go.dq
namespace Go.Proofs
open Go Go.dq
theorem Gx:∀(xs E:List ah) (p:Nat),p+xs.length<=E.length->cO E p xs=E.take p++xs++E.drop (p+xs.length)
 |[],E,p,h=>by simp[cO]
 | x :: xs,E,p,h=>by
  simp only[aq]at h;rw[cO,Gx xs (E.set p x) (p+1) (by rw[bg];omega)];have hp:p<E.length:=by omega
  have e1:(E.set p x).take (p+1)=E.take p++[x]:=by
   rw[cx,gT hp];simp[List.take_set_of_le]
  have e2:(E.set p x).drop (p+1+xs.length)=E.drop (p+(xs.length+1)):=by
   rw[List.drop_set,if_pos (by omega)];congr 1;omega
  rw[e1,e2];simp
theorem KJ {n:Nat}:∀ {a b:List ah},bG n a->bG n b->bG n (a++b)
 |[],_,_,h=>h
 |_ :: _,_,h,k=>⟨h.1,KJ h.2 k⟩
theorem Ic {n m:Nat}{a:ah}(h:a.low n):bG n (List.replicate m a):=by
 induction m with
 |zero=>trivial
 |succ m ih=>exact⟨h,ih⟩
theorem Ou {n:Nat}(sz:Nat):(ef sz).low n:=by
 unfold ef;split
 ·trivial
 ·exact Ic (a:=.undef) trivial
theorem KC {n:Nat}:∀ {xs E:List ah} {p:Nat},bG n E->bG n xs->bG n (cO E p xs)
 |[],_,_,h,_=>h
 |x :: xs,E,p,h,k=>by rw[cO];exact KC (LB h _ k.1) k.2
theorem T_ {E Z:List ah} {i m n k:Nat} (hi:i<n) (hE:n<=E.length) (hm:m=n-1) (hk:Z.length=k) (C_:m+k=n) :
  (cO (cO E i ((E.drop (i+1)).take (n-(i+1)))) m Z).take m=E.take i++(E.drop (i+1)).take (n-(i+1)):=by
 have hl:((E.drop (i+1)).take (n-(i+1))).length=n-(i+1):=by simp;omega
 have e1:=Gx ((E.drop (i+1)).take (n-(i+1))) E i (by rw[hl];omega);have uW:(cO E i ((E.drop (i+1)).take (n-(i+1)))).length=E.length:=xc _ _ _;rw[Gx Z _ m (by rw[uW];omega),cg,cz (by rw[bN,uW];omega),j7,Nat.min_self,e1,cg,
  <-cg,cz (by rw[aA,hl,bN];omega),aO (by rw[aA,hl,bN];omega)]
theorem NW (l:List Li) (i:Nat) (hi:i<l.length) (hl:l.length<1000000000):ak Tryz.prog (.fn 71 [] []) [.os 0 0 l.length 5,.int .i64 i,.int .i64 ((i+1:Nat):Int)] [some (.row (lits l) 0)]
  (λr σ'=>r=.os 0 0 (l.length-1) 5/\σ'=[some (.row (lits (l.take i++l.drop (i+1))) 0)]):=by
 refine cj.v (cj.vC (pre:=[]) (post:=[.int .i64 i,.int .i64 ((i+1:Nat):Int)]) (b:=0) (es:=(lits l)) (fz:=0) rfl rfl (by simp[lits]) (by omega) λc hc=>cj.short 0 ?_);have hlen:((lits l)++List.replicate (c-l.length) (ef 5)).length=c:=by simp[lits];omega
 have hE:(((lits l)++List.replicate (c-l.length) (ef 5)).drop (i+1)).take (l.length-(i+1))=lits (l.drop (i+1)):=by
  rw[List.drop_append_of_le_length (by simp[lits];omega),cz (by simp[lits])];rw[aO (by simp[lits])];simp[lits,List.map_drop]
 have IZ:((lits l)++List.replicate (c-l.length) (ef 5)).take i=lits (l.take i):=by
  rw[cz (by simp[lits];omega)];simp[lits,m_]
 have hdr:=λZ hk=>T_ (E:=(lits l)++List.replicate (c-l.length) (ef 5)) (Z:=Z) (i:=i) (m:=l.length-1) (n:=l.length) (k:=1) hi (by omega) rfl hk (by omega);rw[hE,IZ]at hdr;have lg:bG 1 (lits l++List.replicate (c-l.length) (ef 5)):=KJ (bI _) (Ic (Ou _));generalize ZV:(lits l)++List.replicate (c-l.length) (ef 5)=E at *
 refine cj.pW (rs:=[.tmp 6]) (m:=30) 1000 Tryz.func71 rfl rfl rfl rfl ?_;have dL:¬(i:Int)=((i+1:Nat):Int):=by omega
 simp only[go_sem,dL]
 (repeat((with_reducible refine And.intro ?_ ?_);·omega))
 refine aC.draw [.no,.no,.no,.no,.no,.no,⟨none,[0],[]⟩] 1 1 mixed rfl rfl (by decide) ?_;have hx:i+(lits (l.drop (i+1))).length=l.length-1:=by rw[dA,cr];omega
 have uu:l.length-1<=c:=by omega
 have y7:l.length-(l.length-1)=1:=by omega
 simp only[go_sem,cM,hlen,hE,hx,uu,aj]
 (repeat((with_reducible refine And.intro ?_ ?_);·omega))
 refine aC.g ?_;simp only[go_sem,hlen,hx,xc,y7,oK,List.replicate_one,aK,forall_eq,Nat.one_ne_zero]
 (repeat((with_reducible refine And.intro ?_ ?_);·omega))
 rw[gy];refine⟨_,gL _,ae _,⟨?_,trivial⟩,Nat.one_pos,?_⟩
 ·exact LB (KC lg (bI _)) _ (by simp[go_sem])
 ·rw[Kq];refine⟨_,_,l.length-1,rfl,rfl,?_⟩;have h5:=hdr [.agg [.bool false,.int .i64 0,.a8,.int .i64 0,.a8]] rfl;simp only[cO]at h5;rw[h5];simp[cJ,lits]
theorem Ybq (l:List Tm) (i:Nat) (hi:i<l.length) (hl:l.length<1000000000):ak Tryz.prog (.fn 241 [] []) [.os 0 0 l.length 2,.int .i64 i,.int .i64 ((i+1:Nat):Int)] [some (.row (l.map Tm.aH) 0)]
  (λr σ'=>r=.os 0 0 (l.length-1) 2/\σ'=[some (.row (List.map Tm.aH (l.take i++l.drop (i+1))) 0)]):=by
 refine cj.v (cj.vC (pre:=[]) (post:=[.int .i64 i,.int .i64 ((i+1:Nat):Int)]) (b:=0) (es:=(l.map Tm.aH)) (fz:=0) rfl rfl (by simp[lits]) (by omega) λc hc=>cj.short 0 ?_);have hlen:((l.map Tm.aH)++List.replicate (c-l.length) (ef 2)).length=c:=by simp[lits];omega
 have hE:(((l.map Tm.aH)++List.replicate (c-l.length) (ef 2)).drop (i+1)).take (l.length-(i+1))=List.map Tm.aH (l.drop (i+1)):=by
  rw[List.drop_append_of_le_length (by simp[lits];omega),cz (by simp[lits])];rw[aO (by simp[lits])];simp[lits,List.map_drop]
 have IZ:((l.map Tm.aH)++List.replicate (c-l.length) (ef 2)).take i=List.map Tm.aH (l.take i):=by
  rw[cz (by simp[lits];omega)];simp[lits,m_]
 have hdr:=λZ hk=>T_ (E:=(l.map Tm.aH)++List.replicate (c-l.length) (ef 2)) (Z:=Z) (i:=i) (m:=l.length-1) (n:=l.length) (k:=1) hi (by omega) rfl hk (by omega);rw[hE,IZ]at hdr;have lg:bG 1 (l.map Tm.aH++List.replicate (c-l.length) (ef 2)):=KJ (bC _) (Ic (Ou _));generalize ZV:(l.map Tm.aH)++List.replicate (c-l.length) (ef 2)=E at *
 refine cj.pW (rs:=[.tmp 6]) (m:=30) 1000 Tryz.func241 rfl rfl rfl rfl ?_;have dL:¬(i:Int)=((i+1:Nat):Int):=by omega
 simp only[go_sem,dL]
 (repeat((with_reducible refine And.intro ?_ ?_);·omega))
 refine aC.draw [.no,.no,.no,.no,.no,.no,⟨none,[0],[]⟩] 1 1 mixed rfl rfl (by decide) ?_;have hx:i+(l.drop (i+1)).length=l.length-1:=by rw[cr];omega
 have uu:l.length-1<=c:=by omega
 have y7:l.length-(l.length-1)=1:=by omega
 simp only[go_sem,cM,hlen,hE,hx,uu,aj]
 (repeat((with_reducible refine And.intro ?_ ?_);·omega))
 refine aC.g ?_;simp only[go_sem,hlen,hx,xc,y7,oK,List.replicate_one,aK,forall_eq,Nat.one_ne_zero]
 (repeat((with_reducible refine And.intro ?_ ?_);·omega))
 rw[gy];refine⟨_,gL _,ae _,⟨?_,trivial⟩,Nat.one_pos,?_⟩
 ·exact LB (KC lg (bC _)) _ (by simp[go_sem])
 ·rw[Kq];refine⟨_,_,l.length-1,rfl,rfl,?_⟩;have h5:=hdr [.agg [.int .i64 0,.a8]] rfl;simp only[cO]at h5;rw[h5];simp[cJ,lits]
structure Un where
 l:Tm
 r:Tm
 off:Int
def Un.aH (u:Un):ah:=.agg [.int .i64 u.l.head,.ps 2 (u.l.args.map Tm.aH),.int .i64 u.r.head,.ps 2 (u.r.args.map Tm.aH),.int .i64 u.off]
theorem GQ (u:Un):u.aH.cells=[.int .i64 u.l.head,.ps 2 (u.l.args.map Tm.aH),.int .i64 u.r.head,.ps 2 (u.r.args.map Tm.aH),.int .i64 u.off]:=rfl
theorem Ng (u:Un):u.aH=.agg [.int .i64 u.l.head,.ps 2 (u.l.args.map Tm.aH),.int .i64 u.r.head,.ps 2 (u.r.args.map Tm.aH),.int .i64 u.off]:=rfl
def j5 (l:List Un):List ah:=l.map Un.aH
theorem vz (l:List Un):(j5 l).length=l.length:=by simp[j5]
theorem Kn {n:Nat}(u:Un):u.aH.low n:=by simp[Ng,go_sem,bC]
theorem uR {n:Nat}(l:List Un):bG n (j5 l):=wx λx _=>Kn x
theorem PQ {l:List Un}{i:Nat}(h:i<l.length):(j5 l).getD i .undef=l[i].aH:=jT h
theorem Yby (σ:av) {b cp:Nat} (c:ah) (p:Un->Bool) (l:List Un) {E:List ah} (hb:bW σ b=some (.row E 0)) (hE:∀(i:Nat) (h:i<l.length),E.getD i .undef=l[i].aH) (y9:l.length<=E.length) (hl:l.length<2 ^ 62) (hs:bH σ.length σ) (hc:c.low σ.length)
  (hp:∀(i:Nat) (h:i<l.length),ak Tryz.prog c [l[i].aH] σ (λr σ'=>r=.bool (p l[i])/\σ' = σ)) :
  ak Tryz.prog (.fn 161 [] []) [.oc b 0 l.length cp 5,c] σ (λr σ'=>r=.int .i64 (eF p l 0)/\σ' = σ):=by
 refine ak.begin (rs:=[.tmp 4]) (m:=17) 1000 Tryz.func161 rfl rfl rfl rfl rfl ?_;simp only[go_sem];refine aC.cA (ι:={i:Nat // i<=l.length/\eF p (l.drop i) i=eF p l 0}) 1000 (λi=>dV 19 [(0,.oc b 0 l.length cp 5),(1,c),(7,.int .i64 l.length),(8,.int .i64 i.1)]) (λ_=>σ) (λi=>l.length-i.1) ⟨0,by simp⟩ ?_ (λ_=>ae _) ?_
 ·simp only[go_sem,hc,hs];exact⟨gL σ,CG hb⟩
 ·rintro ⟨i,hi,aD⟩;by_cases bx:(i:Int)<l.length
  ·have aL:i<l.length:=by omega
   have hd:eF p (l.drop i) i=if p l[i] then (i:Int) else eF p (l.drop (i+1)) ((i:Int)+1):=by
    rw[ai aL];rfl
   simp only[go_sem,bx,hb,hE i aL,GQ]
   (repeat((with_reducible refine And.intro ?_ ?_);·omega))
   refine(hp i aL).mono ?_;rintro r σ' ⟨rfl,rfl⟩;refine aC.g ?_;cases e:p l[i] with
   |true =>
    rw[hd,e,if_pos rfl]at aD;simp only[go_sem];refine aC.g ?_;simp only[go_sem,<-aD];rw[gy];exact⟨σ',gL σ',ae _,hs,trivial,rfl,rfl⟩
   |false =>
    rw[hd,e,if_neg (by decide)]at aD;simp only[go_sem];refine⟨⟨i+1,aL,aD⟩,?_,by simp only;omega⟩;simp only[go_sem,hc,hs];rw[dt (by omega)];exact⟨rfl,gL σ',CG hb⟩
  ·have dm:i=l.length:=by omega
   subst dm;rw[aJ]at aD;simp only[go_sem,bx];refine aC.g ?_;simp only[go_sem,<-aD];rw[gy];exact⟨σ,gL σ,ae _,hs,trivial,rfl,rfl⟩
theorem KR {α:Type} (p : α->Bool):∀(l:List α) (i:Int),0<=i->(eF p l i = -1/\l.filter (λx=>!p x)=l)\/∃k,k<l.length/\eF p l i=i+k/\(∀x∈l.take k,p x=false)/\∀h:k<l.length,p l[k]=true
 |[],i,_=>.inl ⟨rfl,rfl⟩
 | a :: l,i,h=>by
  by_cases c:p a=true
  ·exact .inr ⟨0,by simp,by simp[eF,c],by simp,λ_=>c⟩
  ·have c':p a=false:=by simpa using c
   rcases KR p l (i+1) (by omega) with⟨h1,h2⟩|⟨k,h1,h2,h3,h4⟩
   ·exact .inl ⟨by simp[eF,c',h1],by simp[qn,c',h2]⟩
   ·refine .inr ⟨k+1,by simpa using h1,by simp[eF,c',h2];omega,?_,λh=>by simpa using h4 (by simpa using h)⟩;intro x hx;rw[cW,aU]at hx;rcases hx with rfl|hx
    ·exact c'
    ·exact h3 x hx
theorem Zmi {α:Type}(p : α->Bool)(l:List α)(h:∀x∈l,p x=false):l.filter (λx=>!p x)=l:=List.filter_eq_self.2 λx hx=>by simp[h x hx]
theorem Zus (us:List Un) (p:Un->Bool) (f:FuncId) (hl:us.length<1000000000) (hf:∀u∈us,az Tryz.prog f [u.aH] (.bool (p u))) (zV:us≠[]) :
  ak Tryz.prog (.fn 137 [] []) [.os 0 0 us.length 5,.fn f [] []] [some (.row (j5 us) 0)]
  (λr σ'=>r=.os 0 0 (us.filter λu=>!p u).length 5/\σ'=[some (.row (j5 (us.filter λu=>!p u)) 0)]):=by
 have oS : 0<us.length:=List.length_pos_iff.2 zV;refine cj.v (cj.vC (pre:=[]) (post:=[.fn f [] []]) (b:=0) (es:=j5 us) (fz:=0) rfl rfl (by simp[j5]) oS λc hc=>cj.short 0 ?_);refine cj.pW (rs:=[.tmp 4]) (m:=40) 1000 Tryz.func137 rfl rfl rfl rfl ?_;have iz:∀(σ:av) (u:Un),u∈us->∀K:ah->av->Prop,K (.bool (p u)) σ->ak Tryz.prog (.fn f [] []) [u.aH] σ K:=λσ u hu K hk=>ak.bm [] (hf u hu) (bL _ _ _) ⟨Kn u,trivial⟩ (by rw[eW];split<;>exact hk);have rA:∀L:List Un,bG 1 (j5 L++List.replicate (c-us.length) (ef 5)):=λL=>KJ (uR _) (Ic (Ou _));simp only[go_sem];refine(Yby _ _ p us rfl (λi h=>?_) ?_ (by omega) ?_ ?_ (λi h=>iz _ _ (ay h) _ ⟨rfl,rfl⟩)).mono ?_
 ·rw[vW,if_pos (by rw[vz];exact h)];exact PQ h
 ·simp[j5]
 ·exact⟨rA us,trivial⟩
 ·simp[go_sem]
 rintro r σ' ⟨rfl,rfl⟩;refine aC.g ?_;rcases KR p us 0 (by omega) with⟨h1,h2⟩|⟨k,h1,h2,h3,h4⟩
 ·simp only[go_sem,h1];rw[gy];refine⟨_,gL _,ae _,⟨rA us,trivial⟩,Nat.one_pos,?_⟩;rw[Kq];refine⟨_,_,us.length,rfl,?_⟩;rw[cz (by rw[vz];exact ae _),aO (by rw[vz];exact ae _),h2];exact⟨rfl,rfl⟩
 ·have vI:¬(0+(k:Int)) = -1:=by omega
  have sW:=W1' k (by omega)
  have tB : 0+(k:Int)=(k:Int):=by omega
  simp only[go_sem,h2,vI,sW,tB];have ZY:(us.take (k+1)).filter (λu=>!p u)=us.take k:=by
   rw[cx,ax h1,dx,lC,Zmi p _ h3];simp[h4 h1]
  have ap3:us.length<9223372036854775807:=by omega
  have hE:∀(j:Nat) (G:List Un),((us.take j).filter (λu=>!p u)).length+G.length=j->j<=us.length ->
    (j5 ((us.take j).filter (λu=>!p u)++G++us.drop j)++List.replicate (c-us.length) (ef 5)).length=c:=λj G h1 h2=>by
   simp only[aA,vz,bJ,cr];omega
  refine aC.cA (ι:={q:Nat×List Un // q.1<=us.length/\((us.take q.1).filter (λu=>!p u)).length+q.2.length=q.1/\q.2≠[]}) 1000
   (λq=>dV 42 [(0,.oc 0 0 us.length c 5),(1,.fn f [] []),(4,.a8),(5,.int .i64 ((us.take q.1.1).filter (λu=>!p u)).length),(6,.int .i64 q.1.1)])
   (λq=>[some (.row (j5 ((us.take q.1.1).filter (λu=>!p u)++q.1.2++us.drop q.1.1)++List.replicate (c-us.length) (ef 5)) 0)]) (λq=>us.length-q.1.1)
   ⟨(k+1,[us[k]]),by omega,by rw[ZY];simp;omega,by simp⟩ ?_ (λ_=>ae _) ?_
  ·have e0:us.take k++[us[k]]++us.drop (k+1)=us:=by simp
   have e1:(us.take k).length=k:=by simp;omega
   simp only[go_sem,ZY,e0,e1,rA]
  ·rintro ⟨⟨j,G⟩,hj,hlen,hG⟩;simp only at hj hlen hG;have Hf:=hE j G hlen hj;by_cases bx:(j:Int)<us.length
   ·have aL:j<us.length:=by omega
    have fc:(j5 ((us.take j).filter (λu=>!p u)++G++us.drop j)++List.replicate (c-us.length) (ef 5)).getD j .undef=us[j].aH:=by
     rw[vW,if_pos (by rw[vz];simp only[aA,cr];omega)];rw[PQ (by simp only[aA,cr];omega)];rw[List.getElem_append_right (by simp only[aA];omega)];simp only[aA,hlen,dF,List.getElem_drop,cF]
    simp only[go_sem,bx,Hf,fc,GQ]
    (repeat((with_reducible refine And.intro ?_ ?_);·omega))
    refine iz _ us[j] (ay aL) _ ?_;refine aC.g ?_;have oB:us.take (j+1)=us.take j++[us[j]]:=by rw[cx,ax aL];rfl
    have hdr:us.drop j=us[j] :: us.drop (j+1):=ai aL;have xQ:=W1' j (by omega)
    cases hp:p us[j] with
    |true =>
     have ZZ:(us.take (j+1)).filter (λu=>!p u)=(us.take j).filter (λu=>!p u):=by rw[oB,lC];simp[hp]
     simp only[go_sem,xQ];refine⟨⟨(j+1,G++[us[j]]),by simp only;omega,by simp only[ZZ,aA,dN];omega,by simp⟩,?_,by simp only;omega⟩;have e:(us.take j).filter (λu=>!p u)++(G++[us[j]])++us.drop (j+1)=(us.take j).filter (λu=>!p u)++G++us.drop j:=by rw[hdr];simp
     simp only[ZZ,e];exact⟨⟨trivial,trivial⟩,trivial,rA _⟩
    | false =>
     have QI:(us.take (j+1)).filter (λu=>!p u)=(us.take j).filter (λu=>!p u)++[us[j]]:=by rw[oB,lC];simp[hp]
     obtain⟨g,G',rfl⟩:=List.exists_cons_of_ne_nil hG;obtain⟨K,D7⟩:∃K,(us.take j).filter (λu=>!p u)=K:=⟨_,rfl⟩;rw[D7]at QI;simp only[D7,aq]at hlen Hf;have hgK:(j5 (K++g :: G'++us.drop j)++List.replicate (c-us.length) (ef 5)).getD K.length .undef=g.aH:=by
      rw[vW,if_pos (by rw[vz];simp)];rw[PQ (by simp)];simp
     have fS:(j5 (K++g :: G'++us.drop j)++List.replicate (c-us.length) (ef 5)).set K.length us[j].aH=j5 (K++us[j] :: G'++us.drop j)++List.replicate (c-us.length) (ef 5):=by
      rw[List.set_append_left _ _ (by rw[vz];simp)];simp[j5]
     have hwK:IntKind.i64.wrap ((K.length:Int)+1)=((K.length+1:Nat):Int):=by rw[dt (by omega)];omega
     simp only[go_sem,D7,xQ,hwK,hgK,GQ,Hf]
     (repeat((with_reducible refine And.intro ?_ ?_);·omega))
     refine⟨⟨(j+1,G'++[us[j]]),by simp only;omega,by simp only[QI,aA,dN];omega,by simp⟩,?_,by simp only;omega⟩;have FN:jl (c_ g.aH) [.int .i64 us[j].l.head,.ps 2 (List.map Tm.aH us[j].l.args),.int .i64 us[j].r.head,.ps 2 (List.map Tm.aH us[j].r.args),.int .i64 us[j].off]=us[j].aH:=rfl;have e:K++[us[j]]++(G'++[us[j]])++us.drop (j+1)=K++us[j] :: G'++us.drop j:=by rw[hdr];simp
     rw[FN,fS];simp only[QI,e,aA,dN];exact⟨⟨trivial,trivial⟩,trivial,rA _⟩
   ·have qh:j=us.length:=by omega
    subst qh;rw[bQ]at hlen;obtain⟨K,D7⟩:∃K,us.filter (λu=>!p u)=K:=⟨_,rfl⟩;simp only[bQ,aJ,D7,bf]at hlen Hf;simp only[go_sem,bx];refine aC.g ?_;have hGl:us.length-K.length=G.length:=by omega
    have hG0:¬G.length=0:=λe=>hG (bn e);simp only[go_sem,bQ,aJ,D7,bf,Hf,hGl,hG0,oK];refine⟨⟨by omega,by omega⟩,⟨aj _,by rw[bJ];exact ae _,by omega,λx hx=>?_⟩,⟨by omega,by omega⟩,?_⟩
    ·rw[(List.mem_replicate.1 hx).2];exact⟨rfl,rfl⟩
    rw[gy];refine⟨_,gL _,ae _,⟨KC (rA _) (Ic (by simp[go_sem])),trivial⟩,Nat.one_pos,?_⟩;rw[Kq];refine⟨_,_,K.length,rfl,rfl,?_⟩;have hK1:List.take K.length (j5 (K++G))=j5 K:=by simp[j5]
    rw[Gx _ _ _ (by rw[Hf,bJ];omega),cg,cz (by rw[vz];simp),hK1,cz (by rw[vz];exact ae _),
     aO (by rw[vz];exact ae _)]
    rfl
@[go_sem]theorem Yzi:IntKind.i64.wrap 1=1:=dt (by omega)
theorem Zxn {x:ah}{R ys:List ah}(h:R.length=ys.length):cO (x :: R) 1 ys=x :: ys:=by
 rw[Gx _ _ _ (by simp only[aq];omega)];simp only[cW,jh,bq,aY];rw[dY (by simp only[aq];omega)];simp
theorem Ue (l:List (List Li)):∀x∈c9 l,x.cells.length=1/\x.cells.all ah.dy=true:=λx hx=>by
 obtain⟨t,_,rfl⟩:=cN.1 hx;exact⟨rfl,rfl⟩
theorem VM (es:List (List Li)) (c:List Li) (dL:es≠[]) (hl:es.length<1000000):cj Tryz.prog 26 [.os 1 0 es.length 1,.int .i64 0,.os 2 0 1 1] [none,some (.row (c9 es) 0),some (.row [.ps 5 (lits c)] 0)]
  (λr σ'=>r=.ps 1 (c9 (c :: es))/\σ'=[none,none,none]):=by
 have oS : 0<es.length:=List.length_pos_iff.2 dL;refine cj.vC (pre:=[]) (post:=[.int .i64 0,.os 2 0 1 1]) (b:=1) (es:=c9 es) (fz:=0) rfl rfl (by simp[c9]) oS λcp Ja=>?_;refine cj.xy (rs:=[.tmp 6]) (m:=92) 1000 Tryz.func26 rfl rfl rfl rfl ?_;have h0:¬(0:Int)=es.length:=by omega
 obtain⟨N,hN⟩:∃N:Nat,N=es.length+1:=⟨_,rfl⟩;have hw:IntKind.i64.wrap ((es.length:Int)+1)=(N:Int):=by rw[dt (by omega)];omega
 have lE:IntKind.i64.wrap (N:Int)=(N:Int):=dt (by omega);have gM:(c9 es).length=es.length:=lP es;by_cases hg:(cp:Int)<(N:Int)
 ·have wa:¬N<=cp:=by omega
  have h9:N<=1000000000:=by omega
  have A1:eE ⟨1,false,24,[.a8],.slice⟩ (List.replicate N .a8):=⟨λx hx=>by rw[(List.mem_replicate.1 hx).2];exact⟨rfl,rfl⟩,by decide,by decide,rfl⟩;have Hu:List.take es.length (c9 es++List.replicate (cp-es.length) (ef 1))=c9 es:=by
   rw[cz (by rw[gM];exact ae _),aO (by rw[gM];exact ae _)]
  have oB:List.take N [ah.ps 5 (lits c)]=[.ps 5 (lits c)]:=aO (by simp;omega);have fS:(List.replicate N ah.a8).set 0 (.ps 5 (lits c))=.ps 5 (lits c):: List.replicate es.length .a8:=by rw[hN,eS];rfl
  have QL:N-1=es.length:=by omega
  have FY:List.take es.length (c9 es)=c9 es:=aO (by rw[gM];exact ae _);have sV:=Zxn (x:=.ps 5 (lits c)) (R:=List.replicate es.length .a8) (ys:=c9 es) (by simp[c9]);have QA:(1:Int)<=N:=by omega
  have qa : 1+es.length=N:=by omega
  have po:es.length+1=N:=by omega
  simp only[go_sem,h0,hw,lE,hg,wa,h9,A1,aj,aA,bJ,gM,oK,aK,forall_eq,Hu,xc,oB,fS]
  (repeat((with_reducible refine And.intro ?_ ?_);·omega))
  refine aC.draw [.no,.no,.no,.no,.no,.no,.no,.no,⟨none,[3],[]⟩] 4 4 mixed rfl rfl (by decide) ?_;simp only[go_sem,cM,QL,gM,Hu,FY,sV,oK,bJ,qa,po,QA,aA,bJ]
  (repeat((with_reducible refine And.intro ?_ ?_);·omega))
  refine⟨Ue es,?_⟩;refine aC.g ?_;simp only[go_sem];rw[Gp];refine⟨.ps 1 (c9 (c :: es)),?_,by simp[go_sem,eh],rfl,rfl⟩;simp only[go_sem,aq,gM,po];have ht3:List.take N (.ps 5 (lits c):: c9 es)=.ps 5 (lits c):: c9 es:=aO (by simp[gM];omega);rw[ht3];exact bL _ _ _
 ·have QA:(1:Int)<=N:=by omega
  have QL:N-1=es.length:=by omega
  have qa : 1+es.length=N:=by omega
  have po:es.length+1=N:=by omega
  simp only[go_sem,h0,hw,lE,hg,aj,aA,bJ,gM,QA]
  (repeat((with_reducible refine And.intro ?_ ?_);·omega))
  refine ak.uL (tS:=23) (tR:=4) (e:=24) (b1:=2) (b2:=1) (n1:=1) (n2:=N-1) (sz:=1) Tryz.func59 (by kernel_rfl) (by kernel_rfl) (by kernel_rfl) (by kernel_rfl) (by kernel_rfl) Xc8 (.inl rfl) (.inr ⟨_,rfl⟩) (by decide) (by decide) (by omega) rfl rfl (by decide) ?_;refine aC.g ?_;simp only[go_sem];refine aC.draw [.no,.no,.no,.no,.no,.no,.no,.no,⟨none,[1],[]⟩] 3 3 mixed rfl rfl (by decide) ?_;have Ei:(c9 es++List.replicate (cp-es.length) (ef 1)).length=cp:=by rw[aA,gM,bJ];omega
  have R5:List.take es.length (List.take N (c9 es++List.replicate (cp-es.length) (ef 1)))=c9 es:=by
   rw[j7,ly (by omega),cz (by rw[gM];exact ae _),aO (by rw[gM];exact ae _)]
  generalize ZV:c9 es++List.replicate (cp-es.length) (ef 1)=E at *
  have sV:∀x,List.take N ((cO E 1 (c9 es)).set 0 x)=x :: c9 es:=λx=>by
   have h1:=Gx (c9 es) E 1 (by rw[gM,Ei];omega)
   match E,Ei with
   |[],Ei=>simp at Ei;omega
   |y :: E,Ei =>
    rw[h1];simp only[cW,jh,bq,aY,cw,gM,qa,<-po];rw[cz (by rw[gM];exact ae _),aO (by rw[gM];exact ae _)]
  have AJ:oK 1 (c9 es):=Ue es;have oB:List.take N [ah.ps 5 (lits c)]=[.ps 5 (lits c)]:=aO (by simp;omega);have QY:oK 1 [ah.ps 5 (lits c)]:=λx hx=>by rw[aK.1 hx];exact⟨rfl,rfl⟩
  simp only[go_sem,cM,QL,Ei,R5,AJ,gM,qa]
  (repeat((with_reducible refine And.intro ?_ ?_);·omega))
  refine aC.g ?_;simp only[go_sem,xc,Ei,oB,QY]
  (repeat((with_reducible refine And.intro ?_ ?_);·omega))
  rw[Gp];refine⟨.ps 1 (c9 (c :: es)),?_,by simp[go_sem,eh],rfl,rfl⟩;simp only[go_sem,bg,xc,Ei,sV];exact⟨by omega,bL _ _ _⟩
theorem UF (c:List Li):eE ⟨1,false,24,[.a8],.slice⟩ [ah.ps 5 (lits c)]:=Yvi [c] ▸ trivial
theorem Vp (c:List Li):cj Tryz.prog 26 [.a8,.int .i64 0,.os 0 0 1 1] [some (.row [.ps 5 (lits c)] 0)]
  (λr σ'=>r=.ps 1 (c9 [c])/\σ'=[none]):=by
 refine cj.xy (rs:=[.tmp 6]) (m:=92) 1000 Tryz.func26 rfl rfl rfl rfl ?_;simp only[go_sem,UF]
 (repeat((with_reducible refine And.intro ?_ ?_);·omega))
 rw[Gp];refine⟨.ps 1 (c9 [c]),?_,by simp[go_sem,eh],rfl,rfl⟩;simp only[go_sem,c9,aI,aR]
theorem Vw (c:List Li):cj Tryz.prog 26 [.os 1 0 0 1,.int .i64 0,.os 2 0 1 1] [none,some (.row [] 0),some (.row [.ps 5 (lits c)] 0)]
  (λr σ'=>r=.ps 1 (c9 [c])/\σ'=[none,none,none]):=by
 refine cj.xy (rs:=[.tmp 6]) (m:=92) 1000 Tryz.func26 rfl rfl rfl rfl ?_;simp only[go_sem,UF]
 (repeat((with_reducible refine And.intro ?_ ?_);·omega))
 rw[Gp];refine⟨.ps 1 (c9 [c]),?_,by simp[go_sem,eh],rfl,rfl⟩;simp only[go_sem,c9,aI,aR]
def oY (c:List Li):Prop:=∀(i:Nat) (h:i<c.length),c[i].l.size<999999999/\c[i].r.size<999999999
def cm (g:List Sy):List (List Li)->Int
 |[]=>0
 |c :: l=>if aW g c≠0 then aW g c else cm g l
theorem Ykh (g:List Sy) (es:List (List Li)) (c:List Li) (kp:∀x∈c :: es,oY x) (hl:es.length<1000000):az Tryz.prog 106 [.ps 4 (syms g),.ps 1 (c9 es),.ps 5 (lits c)] (.int .i64 (cm g (c :: es))):=by
 refine az.begin (rs:=[.tmp 6]) (m:=24) 1000 Tryz.func106 rfl rfl rfl (by decide) trivial ?_;simp only[go_sem];have xE:(es=[]\/es≠[]):=by cases es<;>simp
 rcases xE with he|dL
 case' inl =>
  have h0:c9 es=[]:=by rw[he];rfl
  have h1 : [c]=c :: es:=by rw[he]
  simp only[go_sem,h0];refine(cj.v V2).mono ?_;rintro r σ' (⟨rfl,rfl⟩|⟨rfl,rfl⟩)
 case' inl.inl =>
  refine aC.g ?_;simp only[go_sem];refine(cj.v (Vp c)).mono ?_;rintro r σ' ⟨rfl,rfl⟩;rw[h1];refine aC.g ?_;simp only[go_sem,lP]
 case' inl.inr =>
  refine aC.g ?_;simp only[go_sem];refine(cj.v (Vw c)).mono ?_;rintro r σ' ⟨rfl,rfl⟩;rw[h1];refine aC.g ?_;simp only[go_sem,lP]
 case' inr =>
  refine(cj.v (WY es dL (by omega)).1).mono ?_;rintro r σ' ⟨rfl,rfl⟩;refine aC.g ?_;simp only[go_sem];refine(cj.v (VM es c dL hl)).mono ?_;rintro r σ' ⟨rfl,rfl⟩;refine aC.g ?_;simp only[go_sem,lP]
 all_goals
  obtain⟨L,hL⟩:∃L,c :: es=L:=⟨_,rfl⟩;have hlen:es.length+1=L.length:=by rw[<-hL];rfl
  have ko:L.length<2000000:=by omega
  rw[hL,hlen];rw[hL]at kp;refine aC.cA (ι:={i:Nat // i<=L.length/\cm g (L.drop i)=cm g L}) 1000 (λi=>dV 27 [(0,.ps 4 (syms g)),(6,.int .i64 0),(14,.ps 1 (c9 L)),(15,.int .i64 L.length),(16,.int .i64 i.1)]) (λ_=>[]) (λi=>L.length-i.1) ⟨0,by simp⟩ ?_ (λ_=>aj _) ?_
  ·simp only[go_sem,cS,eh]
  ·rintro ⟨i,hi,aD⟩;by_cases bx:(i:Int)<L.length
   ·have aL:i<L.length:=by omega
    have hd:cm g (L.drop i)=if aW g L[i]≠0 then aW g L[i] else cm g (L.drop (i+1)):=by
     rw[ai aL];rfl
    simp only[go_sem,bx,lP,yn aL]
    (repeat((with_reducible refine And.intro ?_ ?_);·omega))
    refine ak.bm [] (HZ g L[i] (kp _ (ay aL))) (bL _ _ _) (by simp[go_sem,cS,bI]) ?_;simp only[bj,bA,bz,if_true];refine aC.g ?_;by_cases c0:aW g L[i]=0
    ·simp only[go_sem,c0];refine⟨⟨i+1,aL,by rw[<-aD,hd,if_neg (by simp[c0])]⟩,?_,by simp only;omega⟩;simp only[go_sem,cS,eh];rw[dt (by omega)];rfl
    ·simp only[go_sem,c0];refine aC.g ?_;rw[hd,if_pos c0]at aD;simp only[go_sem,aD]
   ·have:i=L.length:=by omega
    subst this;rw[aJ]at aD;simp only[go_sem,bx];refine aC.g ?_;simp only[go_sem,<-aD,cm]
@[go_sem]theorem yZ {π:Nat->Nat}{b sz:Nat}{l:List ah}:ez π (eR b sz l)=eR (π b) sz l:=by cases l<;>rfl
@[go_sem]theorem vw {n b sz:Nat}{l:List ah}(h:b<n):ah.low n (eR b sz l)=True:=eq_true (um h sz l)
@[go_sem]theorem Yww {n:Nat}{l:List ah}{r:av}:bH n (cX l :: r)=(bG n l/\bH n r):=by
 cases l with
 |nil=>simp[cX,bH,ke,bG]
 |cons x l=>rfl
@[go_sem]theorem K4 {π:Nat->Nat}{σ r:av}{i:Nat}{l:List ah}(h:bG 0 l):iH π σ i (cX l :: r)=((l=[]\/bW σ (π i)=cX l)/\iH π σ (i+1) r):=by
 cases l with
 |nil=>simp[cX,KL]
 |cons x l=>rw[cX,KV];simp only[eo,bT h];simp
def within (a b:Tm):Bool:=a.vars.all λv=>decide (v∈b.vars)
def fb (u:Un):Bool:=decide (u.l.head=0) || !within u.r u.l
def Cg (t:Tm):Prop:=t.fit/\t.size<99999999
def MR (c:List Li):Prop:=∀l∈c,Cg l.l/\Cg l.r
theorem Yd1 (σ:av) (b:Nat) (vs:List Int) (hb:bW σ b=some (.var [.ps 1 (ints vs)])) (v:Int) (hs:bH σ.length σ) (hl:vs.length<2 ^ 62) :
  ak Tryz.prog (.fn 164 [] [.ptr b 0]) [.int .i64 v] σ (λr σ'=>r=.bool (!decide (v∈vs))/\σ' = σ):=by
 refine ak.begin (rs:=[.tmp 3]) (m:=6) 1000 Tryz.func164 rfl rfl rfl rfl rfl ?_;simp only[go_sem,hb];refine ak.bm [] (Ku vs v hl) (bL _ _ _) (by simp[go_sem,cY]) ?_;rw[eW];simp only[ite_self];refine aC.g ?_;simp only[go_sem];rw[gy];exact⟨σ,gL σ,ae _,hs,trivial,rfl,rfl⟩
theorem Ybc (a b:Tm)(ha:Cg a)(hb:Cg b):az Tryz.prog 139 [a.aH,b.aH] (.bool (within a b)):=by
 refine az.begin (rs:=[.tmp 4]) (m:=11) 1000 Tryz.func139 rfl rfl rfl (by decide) trivial ?_;have Hx:=EU a;have hvb:=EU b;have h1:=ha.2;have h2:=hb.2;simp only[go_sem,cq];refine ak.bm [] (YY b hb.1 (by omega)) (by(try simp only[cq]);exact bL _ _ _) (by simp[go_sem,cV,bC]) ?_;rw[eW];simp only[ite_self];refine aC.g ?_
 simp only[go_sem];refine ak.bm [] (YY a ha.1 (by omega)) (by(try simp only[cq]);exact bL _ _ _) (by simp[go_sem,cV,bC]) ?_;rw[eW];simp only[ite_self];refine aC.g ?_
 simp only[go_sem];refine(Zo9 _ _ (λv=>!decide (v∈b.vars)) a.vars (by omega) ?_ ?_ (λi h=>Yd1 _ 2 b.vars rfl _ ?_ (by omega))).mono ?_
 ·simp[go_sem,bC,cY]
 ·simp[go_sem]
 ·simp[go_sem,bC,cY]
 rintro r σ' ⟨rfl,rfl⟩;refine aC.g ?_;simp only[go_sem];simp[within,List.all_eq_not_any_not]
theorem Yfj (u:Un) (hl:Cg u.l) (hr:Cg u.r):az Tryz.prog 138 [u.aH] (.bool (fb u)):=by
 refine az.begin (rs:=[.tmp 2]) (m:=14) 1000 Tryz.func138 rfl rfl rfl (by decide) trivial ?_;by_cases h0:u.l.head=0
 ·simp only[go_sem,Ng,h0,fb]
 ·simp only[go_sem,Ng,h0,fb];refine ak.bm [] (Ybc u.r u.l hr hl) (by(try simp only[cq]);exact bL _ _ _) (by simp[go_sem,cV,bC]) ?_;simp only[bj,bA,bz,if_true];refine aC.g ?_
  simp only[go_sem]
theorem Zvu (σ:av) (c:ah) (hs:bH σ.length σ) (hc:c.low σ.length) :
  ak Tryz.prog (.fn 161 [] []) [.a8,c] σ (λr σ'=>r=.int .i64 (-1)/\σ' = σ):=by
 refine ak.begin (rs:=[.tmp 4]) (m:=17) 1000 Tryz.func161 rfl rfl rfl rfl rfl ?_;simp only[go_sem];refine aC.cA (ι:=Unit) 1000 (λ_=>dV 19 [(0,.a8),(1,c),(7,.int .i64 0),(8,.int .i64 0)]) (λ_=>σ) (λ_=>0) () ?_ (λ_=>ae _) ?_
 ·simp only[go_sem,hc,hs];exact gL σ
 ·rintro⟨⟩;simp only[go_sem];refine aC.g ?_;simp only[go_sem];rw[gy];exact⟨σ,gL σ,ae _,hs,trivial,rfl,rfl⟩
theorem Zob (σ:av) (c:ah) (hs:bH σ.length σ) (hc:c.low σ.length) :
  ak Tryz.prog (.fn 137 [] []) [.a8,c] σ (λr σ'=>r=.a8/\σ' = σ):=by
 refine ak.begin (rs:=[.tmp 4]) (m:=40) 1000 Tryz.func137 rfl rfl rfl rfl rfl ?_;simp only[go_sem];refine(Zvu σ c hs hc).mono ?_;rintro r σ' ⟨rfl,rfl⟩;refine aC.g ?_;simp only[go_sem];rw[gy];exact⟨σ',gL σ',ae _,hs,trivial,rfl,rfl⟩
def vT (c:List Li)(i:Nat):List Un :=
 match c with
 |[e]=>if e.neg then [] else [⟨e.l,e.r,(i:Int)⟩,⟨e.r,e.l,(i:Int)⟩]
 |_=>[]
def ln:List (List Li)->Nat->List Un
 |[],_=>[]
 |c :: l,i=>vT c i++ln l (i+1)
def db (es:List (List Li)):List Un:=(ln es 0).filter λu=>!fb u
theorem Ytl (c:List Li)(i:Nat):(vT c i).length<=2:=by
 unfold vT;split
 ·split<;>simp
 ·simp
theorem Yx9 {c:List Li} {i:Nat} (h:MR c):∀u∈vT c i,Cg u.l/\Cg u.r:=by
 intro u hu;unfold vT at hu;split at hu
 ·rename_i e;have he:=h e (by simp);split at hu
  ·cases hu
  ·rcases aU.1 hu with rfl|hu
   ·exact he
   ·rcases aU.1 hu with rfl|hu
    ·exact⟨he.2,he.1⟩
    ·cases hu
 ·cases hu
theorem Uz:∀(l:List (List Li)) (i:Nat),(∀c∈l,MR c)->∀u∈ln l i,Cg u.l/\Cg u.r
 |[],_,_,u,hu=>by simp[ln]at hu
 |c :: l,i,h,u,hu=>by
  rw[ln,a_]at hu;rcases hu with hu|hu
  ·exact Yx9 (h c (by simp)) u hu
  ·exact Uz l (i+1) (λc hc=>h c (by simp[hc])) u hu
theorem Yfo (es:List (List Li)) (hl:es.length<1000000) (ho:∀c∈es,MR c):az Tryz.prog 107 [.ps 1 (c9 es)] (.ps 5 (j5 (db es))):=by
 refine az.begin (rs:=[.tmp 2]) (m:=48) 1000 Tryz.func107 rfl rfl rfl (by decide) (uR _) ?_;simp only[go_sem,lP];refine aC.ep (ι:={p:Nat×List Un // p.1<=es.length/\p.2++ln (es.drop p.1) p.1=ln es 0/\p.2.length<=2*p.1}) 1000 (λp=>dV 49 [(2,.a8),(3,eR 0 5 (j5 p.1.2)),(6,.ps 1 (c9 es)),(7,.int .i64 es.length),(8,.int .i64 p.1.1)]) (λp=>[cX (j5 p.1.2)]) (λp=>es.length-p.1.1) ⟨(0,[]),by simp⟩ [] ?_ (λ_=>by simp) ?_
 ·refine eL rfl ?_;simp only[go_sem,j5,aR,pU,pC,eh,bT (eh _)]
 ·rintro ⟨⟨i,L⟩,hi,aD,hL⟩;simp only at hi aD hL;by_cases bx:(i:Int)<es.length
  ·have aL:i<es.length:=by omega
   have hd:ln (es.drop i) i=vT es[i] i++ln (es.drop (i+1)) (i+1):=by
    rw[ai aL];rfl
   rw[hd]at aD;have hw:=W1' i (by omega)
   have zb:=yn aL;obtain⟨c,hc⟩:∃c,es[i]=c:=⟨_,rfl⟩;simp only[hc]at aD zb;have same:vT c i=[]->L++ln (es.drop (i+1)) (i+1)=ln es 0:=λh=>by rw[<-aD,h];rfl
   by_cases c1:(c.length:Int)=1
   ·obtain ⟨e,rfl⟩:=List.length_eq_one_iff.1 (show c.length=1 by omega);cases dP:e.neg with
    |true =>
     simp only[go_sem,bx,lP,zb,lits,aI,aR,gf,dP,hw];refine⟨by omega,⟨(i+1,L),by simp only;omega,same (by simp[vT,dP]),by simp only;omega⟩,[],eL rfl ?_,by simp only;omega⟩;simp only[go_sem,eh,uR,bT (eh _)]
    |false =>
     simp only[go_sem,bx,lP,zb,lits,aI,aR,gf,dP,hw];refine⟨by omega,?_⟩;refine aC.draw [⟨none,[],[1]⟩,.no,.no,.no,.no,.no,.no,.no,.no,.no,.no,.no,.no,.no,.no,.no,.no,.no,.no,.no,.no,⟨some 1,[1],[]⟩,⟨some 2,[0,2],[]⟩] 1 3 mixed rfl rfl (by decide) ?_;simp only[go_sem,cM,gf,PJ,eE,aU,dU,forall_eq_or_imp,forall_eq,cR,vz];refine⟨by omega,?_⟩;refine aC.g ?_;simp only[go_sem];have hu:vT [e] i=[⟨e.l,e.r,(i:Int)⟩,⟨e.r,e.l,(i:Int)⟩]:=by simp[vT,dP]
     rw[hu]at aD;refine⟨⟨(i+1,L++[⟨e.l,e.r,(i:Int)⟩,⟨e.r,e.l,(i:Int)⟩]),by simp only;omega,by rw[<-aD];simp,by simp only[aA,aq,aF];omega⟩,[(0,2),(2,0)],eL rfl ?_,by simp only;omega⟩;have e1:j5 (L++[⟨e.l,e.r,(i:Int)⟩,⟨e.r,e.l,(i:Int)⟩])=j5 L++[Un.aH ⟨e.l,e.r,(i:Int)⟩,Un.aH ⟨e.r,e.l,(i:Int)⟩]:=by simp[j5]
     have lw:bG 0 (j5 (L++[⟨e.l,e.r,(i:Int)⟩,⟨e.r,e.l,(i:Int)⟩])):=uR _;rw[e1]at lw ⊢;rw[qP (by simp),qQ (by simp)];simp only[go_sem,eh,uR,bT (eh _),bT lw,iD (aj 1) lw,vz];rw[hw];exact⟨rfl,rfl⟩
   ·have c2:vT c i=[]:=by
     unfold vT;split
     ·simp at c1
     ·rfl
    simp only[go_sem,bx,lP,zb,dA,c1,hw];refine⟨by omega,⟨(i+1,L),by simp only;omega,same c2,by simp only;omega⟩,[],eL rfl ?_,by simp only;omega⟩;simp only[go_sem,eh,uR,bT (eh _)]
  ·have dm:i=es.length:=by omega
   subst dm;rw[aJ,ln,bf]at aD;have qU:db es=L.filter λu=>!fb u:=by rw[db,<-aD]
   have jB:=Uz es 0 ho;rw[<-aD]at jB;simp only[go_sem,bx];refine aC.g ?_;by_cases BZ:L=[]
   ·simp only[go_sem,BZ,j5,aR,pU,pC];refine(Zob _ _ (by simp[go_sem]) (by simp[go_sem])).mono ?_;rintro r σ' ⟨rfl,rfl⟩;refine aC.g ?_;rw[qU,BZ];simp only[go_sem,List.filter_nil,aR]
   ·have dL:j5 L≠[]:=by simp[j5,BZ]
    rw[vY dL,vA dL,vz];simp only[go_sem];refine(Zus L fb 138 (by omega) (λu hu=>Yfj u (jB u hu).1 (jB u hu).2) BZ).mono ?_;rintro r σ' ⟨rfl,rfl⟩;refine aC.g ?_;rw[qU];simp only[go_sem,vz];rw[aO (by rw[vz];exact ae _)];exact bL _ _ _
end Go.Proofs
namespace Go.dq
open Go
theorem ig.tY {w:World} {M:Nat->Nat->Prop} {β β':Env} {π:Nat->Nat} {n:Nat} {L:Loc} {cG:bS} (h:ig w M β' L cG) (hl:cG.low n) (hβ:∀b,b<n->β (π b) = β' b):ig w M β L (eo π cG):=by
 cases cG with
 |var cs =>
  obtain⟨c,e,h1,h0,h2,h3⟩:=h;exact⟨c,e,h1,h0,by rw[kr];exact h2,λk hk=>by rw[kr]at hk;rw[mV];exact(h3 k hk).tY (jZ hl k) hβ⟩
 | row es fz =>
  obtain⟨c,e,h1,h2,h3,h4,h5⟩:=h;exact⟨c,e,h1,h2,by rw[kr];exact h3,λi hi=>by rw[kr]at hi;rw[mV,DS,kr];exact h4 i hi,λi j hi hj=>by
   rw[kr]at hi;rw[mV,DS,mV];exact(h5 i j hi hj).tY (jZ (GL (jZ hl i)) j) hβ⟩
 |map ks vs f =>
  obtain⟨es,clk,h1,h2,h3,h4,h5,h6⟩:=h;exact⟨es,clk,h1,by rw[kr];exact h2,by rw[kr,kr];exact h3,λk hk=>by rw[kr]at hk;rw[mV];exact(h4 k hk).tY (jZ hl.1 k) hβ,λk hk=>by rw[kr]at hk;rw[mV];exact(h5 k hk).tY (jZ hl.2 k) hβ,h6⟩
 |iter s p=>exact h
 |mC ks vs seen =>
  obtain⟨m,es,clk,h1,h2,h3,h4,h5,h6,h7,h8,h9⟩:=h;exact⟨m,es,clk,h1,h2,h3,by rw[kr];exact h4,by rw[kr,kr];exact h5,λk hk=>by rw[kr]at hk;rw[mV];exact(h6 k hk).tY (jZ hl.1 k) hβ,λk hk=>by rw[kr]at hk;rw[mV];exact(h7 k hk).tY (jZ hl.2 k) hβ,h8,λi hi=>by rw[kr];exact h9 i hi⟩
 |loop r =>
  obtain⟨t,d,f,h1,h2,h3⟩:=h;exact⟨t,d,f,h1,by simp only[kr];exact h2,λk hk=>by simp only[kr]at hk;rw[mV];exact(h3 k hk).tY (jZ hl k) hβ⟩
def lX (ι:Nat->Nat)(n m b:Nat):Nat:=if b<n then ι b else b-n+m
def eQ (ι π:Nat->Nat):Nat->av->av->av
 |_,[],σ=>σ
 |i,x :: r,σ=>eQ ι π (i+1) r (σ.set (ι i) (x.map (eo π)))
def ix (ι:Nat->Nat)(n:Nat)(Z' σ:av):av:=eQ ι (lX ι n σ.length) 0 (Z'.take n) σ++(Z'.drop n).map (Option.map (eo (lX ι n σ.length)))
section
variable {ι π:Nat->Nat}{n m:Nat}
theorem Gt:∀(r σ:av) (i:Nat),(eQ ι π i r σ).length = σ.length
 |[],_,_=>rfl
 |x :: r,σ,i=>by rw[eQ,Gt r _ (i+1),bg]
theorem NL:∀(r σ:av) (i c:Nat),(∀b,b<r.length->ι (i+b)≠c)->(eQ ι π i r σ)[c]? = σ[c]?
 |[],_,_,_,_=>rfl
 |x :: r,σ,i,c,h=>by
  rw[eQ,NL r _ (i+1) c (λb hb=>by have:=h (b+1) (by simpa using hb);rwa [show i+(b+1)=i+1+b by omega]at this),b_ (by simpa using h 0 (by simp))]
theorem Ye:∀(r σ:av) (i b:Nat),(∀a a',a<r.length->a'<r.length->ι (i+a) = ι (i+a')->a=a')->b<r.length->ι (i+b) < σ.length->(eQ ι π i r σ)[ι (i+b)]? = (r[b]?).map (Option.map (eo π))
 |[],_,_,b,_,hb,_=>absurd hb (by simp)
 |x :: r,σ,i,0,hinj,_,bx=>by
  rw[eQ,NL]
  ·simp only[cF]at bx ⊢;rw[gT bx];rfl
  ·intro a ha e;have:=hinj (a+1) 0 (by simpa using ha) (by simp) (by rw[show i+(a+1)=i+1+a by omega];exact e);omega
 | x :: r,σ,i,b+1,hinj,hb,bx=>by
  have e:i+(b+1)=i+1+b:=by omega
  rw[e]at bx ⊢;rw[eQ,Ye r _ (i+1) b (λa a' ha ha' h=>by
   have:=hinj (a+1) (a'+1) (by simpa using ha) (by simpa using ha') (by rw[show i+(a+1)=i+1+a by omega,show i+(a'+1)=i+1+a' by omega];exact h);omega) (by simpa using hb) (by rw[bg];exact bx)]
  simp
theorem DU {Z' σ:av}(h:n<=Z'.length):(ix ι n Z' σ).length = σ.length+(Z'.length-n):=by simp[ix,Gt]
variable (wj:∀b b',b<n->b'<n->ι b = ι b'->b=b')(hb:∀b,b<n->ι b<m)
include wj hb
theorem ER {Z' σ:av}(hm : σ.length=m)(h:n<=Z'.length){b:Nat}(Hi:b<Z'.length):(ix ι n Z' σ)[lX ι n m b]? = (Z'[b]?).map (Option.map (eo (lX ι n m))):=by
 unfold ix lX;subst hm;by_cases nx:b<n
 ·rw[if_pos nx,cK (by rw[Gt];exact hb b nx)];have:=Ye (ι:=ι) (π:=lX ι n σ.length) (Z'.take n) σ 0 b (λa a' ha ha' e=>wj a a' (by simp at ha;omega) (by simp at ha';omega) (by simpa using e)) (by simp;omega) (by simpa using hb b nx);rw[br]at this;rw[show(λb=>if b<n then ι b else b-n + σ.length)=lX ι n σ.length from rfl,this,fh,if_pos nx]
 ·rw[if_neg nx,b9 (by rw[Gt];omega),Gt,show b-n + σ.length-σ.length=b-n by omega,cE,dZ,show n+(b-n)=b by omega]
omit wj hb in
theorem Pu {Z' σ:av}{c:Nat}(hc:c < σ.length)(h:∀b,b<n->ι b≠c):(ix ι n Z' σ)[c]? = σ[c]?:=by
 unfold ix;rw[cK (by rw[Gt];exact hc),NL];intro b hb;rw[br];exact h b (by simp at hb;omega)
end
section
variable {P:Program}
theorem ak.many {F:Frame->List Frame->Sem Next->World->Value->World->Prop} {f:ah} {args:List ah} {K:ah->av->Prop} {Z σ:av} (ι:Nat->Nat) (wj:∀b b',b<Z.length->b'<Z.length->ι b = ι b'->b=b') (hb:∀b,b<Z.length->ι b < σ.length)
  (xV:∀c x,σ[c]? = some (some x)↔∃b y,b<Z.length/\ι b=c/\Z[b]? = some (some y)/\x=eo ι y) (hf:f.low Z.length) (ha:bG Z.length args) (hs:bH Z.length Z)
  (h:dn P F f args Z (λr Z'=>Z.length<=Z'.length/\bH Z'.length Z'/\r.low Z'.length/\K (ez (lX ι Z.length σ.length) r) (ix ι Z.length Z' σ))):dn P F (ez ι f) (eC ι args) σ K:=by
 intro X base β w vf vs h1 ou h2 h3 fr cs h4;rw[kr]at h2 h3;generalize hn:Z.length=n at *
 have xM:∀b y,Z[b]? = some (some y)->b<n/\σ[ι b]? = some (some (eo ι y)):=λb y hz=>by
  have bx:b<n:=by rw[<-hn];exact(aN.1 hz).1
  exact⟨bx,(xV _ _).2 ⟨b,y,bx,rfl,hz,rfl⟩⟩
 have he:∀b,b<n->kJ β ι n b = β (ι b):=λb hb=>if_pos hb;have hm:∀g o,jR σ β g o↔jR Z (kJ β ι n) g o:=λg o=>by
  constructor
  ·rintro⟨c,x,L,m1,m2,m3,m4⟩;obtain⟨b,y,q1,rfl,q3,rfl⟩:=(xV c x).1 m1;exact⟨b,y,L,q3,by rw[he b q1];exact m2,m3,EY.mp m4⟩
  ·rintro⟨b,y,L,m1,m2,m3,m4⟩;obtain⟨q1,q2⟩:=xM b y m1;exact⟨ι b,_,L,q2,by rw[<-he b q1];exact m2,m3,EY.mpr m4⟩
 have hM:MT X Z (kJ β ι n)=MT X σ β:=funext λg=>funext λo=>propext (or_congr Iff.rfl (hm g o).symm);have hr:c8 X base Z (kJ β ι n) w:=by
  refine⟨λb hb=>if_neg (by omega),λb x Hi=>?_,λb b' x y L L' e1 e2 e3 e4 e5=>?_,h1.size,h1.sc,h1.gl⟩
  ·obtain⟨q1,q2⟩:=xM b x Hi;obtain⟨L,l1,l2,l3,l4⟩:=h1.cG _ _ q2;refine⟨L,by rw[he b q1];exact l1,l2,l3,?_⟩;rw[hM];exact l4.ez (sq hs b x Hi)
  ·obtain⟨q1,q2⟩:=xM b x e1;obtain⟨q3,q4⟩:=xM b' y e2;rw[he b q1]at e3;rw[he b' q3]at e4;exact wj b b' q1 q3 (h1.inj _ _ _ _ L L' q2 q4 e3 e4 e5)
 have pG:cn w (MT X σ β) (kJ β ι n) vf f:=cn.ez ou _ rfl hf;have ha':∀k,k<args.length->cn w (MT X σ β) (kJ β ι n) (vs.getD k undef) (args.getD k .undef):=λk hk=>by
  have:=h3 k hk;rw[mV]at this;exact cn.ez this _ rfl (jZ ha k)
 rw[<-hM]at pG ha';obtain⟨r,Z',β',v,w',⟨q0,q1,q2,q3⟩,g1,g2,g3,g4,g5⟩:=h X base _ w vf vs hr pG h2 ha' fr cs h4;rw[hn]at g3;generalize Hq : σ.length=m at *
 let HG:Env:=λc=>if c<m then β c else β' (c-m+n)
 have eb:∀b,HG (lX ι n m b) = β' b:=λb=>by
  simp only[HG,lX];by_cases nx:b<n
  ·rw[if_pos nx,if_pos (hb b nx),g3.env b nx,he b nx]
  ·rw[if_neg nx,if_neg (by omega),show b-n+m-m+n=b by omega]
 have ow:∀c x,(ix ι n Z' σ)[c]? = some (some x)->∃b y,c=lX ι n m b/\Z'[b]? = some (some y)/\x=eo (lX ι n m) y:=λc x hc=>by
  have bx:=(aN.1 hc).1;rw[DU q0,Hq]at bx;by_cases Ms:c<m
  ·by_cases hex:∃b,b<n/\ι b=c
   ·obtain⟨b,nx,rfl⟩:=hex;have:=ER (ι:=ι) wj hb (Z':=Z') Hq q0 (b:=b) (by omega);rw[show lX ι n m b = ι b from if_pos nx,hc]at this
    obtain⟨o,h1,h2⟩:=aP.1 this.symm;obtain⟨y,rfl,h3⟩:=aP.1 h2;exact⟨b,y,(if_pos nx).symm,h1,h3.symm⟩
   ·rw[Pu (by omega) (λb nx e=>hex ⟨b,nx,e⟩)]at hc;obtain⟨b,y,p1,p2,_⟩:=(xV c x).1 hc;exact absurd ⟨b,p1,p2⟩ hex
  ·have e:lX ι n m (c-m+n)=c:=by unfold lX;rw[if_neg (by omega)];omega
   have:=ER (ι:=ι) wj hb (Z':=Z') Hq q0 (b:=c-m+n) (by omega);rw[e,hc]at this;obtain⟨o,h1,h2⟩:=aP.1 this.symm;obtain⟨y,rfl,h3⟩:=aP.1 h2;exact⟨_,y,e.symm,h1,h3.symm⟩
 have fA:∀b y,Z'[b]? = some (some y)->(ix ι n Z' σ)[lX ι n m b]? = some (some (eo (lX ι n m) y)):=λb y Hi=>by
  rw[ER wj hb Hq q0 (aN.1 Hi).1,Hi];rfl
 have Db:∀g o,jR (ix ι n Z' σ) HG g o↔jR Z' β' g o:=λg o=>by
  constructor
  ·rintro⟨c,x,L,m1,m2,m3,m4⟩;obtain⟨b,y,rfl,p2,rfl⟩:=ow c x m1;exact⟨b,y,L,p2,by rw[<-eb];exact m2,m3,EY.mp m4⟩
  ·rintro⟨b,y,L,m1,m2,m3,m4⟩;exact⟨_,_,L,fA b y m1,by rw[eb];exact m2,m3,EY.mpr m4⟩
 have I1:MT X Z' β'=MT X (ix ι n Z' σ) HG:=funext λg=>funext λo=>propext (or_congr Iff.rfl (Db g o).symm);refine⟨_,ix ι n Z' σ,HG,v,w',q3,?_,?_,?_,by rw[DU q0,Hq];omega,g5⟩
 ·refine⟨λc hc=>?_,λc x hc=>?_,λc c' x y L L' e1 e2 e3 e4 e5=>?_,g1.size,g1.sc,g1.gl⟩
  ·rw[DU q0,Hq]at hc;simp only[HG];rw[if_neg (by omega)];exact g1.o_ _ (by omega)
  ·obtain⟨b,y,rfl,p2,rfl⟩:=ow c x hc;obtain⟨L,k1,k2,k3,k4⟩:=g1.cG b y p2;refine⟨L,by rw[eb];exact k1,k2,k3,?_⟩;rw[<-I1];exact k4.tY (π:=lX ι n m) (sq q1 b y p2) λb _=>eb b
  ·obtain⟨b,u,rfl,p2,rfl⟩:=ow c x e1;obtain⟨b',u',rfl,p2',rfl⟩:=ow c' y e2;rw[eb]at e3 e4;rw[g1.inj b b' u u' L L' p2 p2' e3 e4 e5]
 ·rw[<-I1];exact g2.tY (π:=lX ι n m) q2 λb _=>eb b
 ·exact⟨g3.os,g3.tape,g3.output,g3.size,λg o x hc hn=>g3.cell g o x hc λhx=>hn ((hm g o).2 hx),λg hg hn=>g3.block g hg λo hx=>hn o ((hm g o).2 hx),λg o hx=>(g3.jq g o ((Db g o).1 hx)).imp (hm g o).2 id,λc hc=>if_pos hc⟩
theorem ak.Ao {F:Frame->List Frame->Sem Next->World->Value->World->Prop} {f:ah} {args:List ah} {K:ah->av->Prop} {Z σ:av} (ι:Nat->Nat) (wj:∀b b',b<Z.length->b'<Z.length->ι b = ι b'->b=b') (hb:∀b,b<Z.length->ι b < σ.length)
  (xV:∀b,b<Z.length->∃o,Z[b]? = some o/\σ[ι b]? = some (o.map (eo ι))) (hf:f.low Z.length) (ha:bG Z.length args) (hs:bH Z.length Z)
  (h:dn P F f args Z (λr Z'=>Z.length<=Z'.length/\bH Z'.length Z'/\r.low Z'.length/\K (ez (lX ι Z.length σ.length) r) (ix ι Z.length Z' σ))):dn P F (ez ι f) (eC ι args) σ K:=by
 let vis:Nat->Bool:=λc=>(List.range Z.length).any λb=>ι b==c
 have w5:∀c,vis c=true↔∃b,b<Z.length/\ι b=c:=λc=>by simp[vis]
 refine ak.frame vis (K':=λr jO=>∃Z',Z.length<=Z'.length/\jO=ix ι Z.length Z' (fB vis 0 σ)/\K r (ix ι Z.length Z' σ)) ?_ ?_
 ·have hl:(fB vis 0 σ).length = σ.length:=uj _ _ _;refine ak.many ι wj (by rw[hl];exact hb) (λc x=>?_) hf ha hs (h.mono ?_)
  ·rw [ym,br];constructor
   ·intro hx;obtain⟨o,h1,h2⟩:=aP.1 hx;split at h2
    ·rename_i hv;obtain⟨b,nx,rfl⟩:=(w5 c).1 hv;obtain⟨z,rY,rE⟩:=xV b nx;rw[h1]at rE;subst h2;obtain⟨y,rfl,e⟩:=aP.1 (aS rE).symm;exact⟨b,y,nx,rfl,rY,e.symm⟩
    ·cases h2
   ·rintro⟨b,y,nx,rfl,hz,rfl⟩;obtain⟨z,rY,rE⟩:=xV b nx;rw[hz]at rY;cases rY;rw[rE,bD,if_pos ((w5 _).2 ⟨b,nx,rfl⟩)];rfl
  ·rintro r Z' ⟨q0,q1,q2,q3⟩;rw[hl];exact⟨q0,q1,q2,Z',q0,rfl,q3⟩
 ·rintro r jO ⟨Z',q0,rfl,q3⟩;have hl:(fB vis 0 σ).length = σ.length:=uj _ _ _;refine⟨λc hc hv=>?_,?_⟩
  ·rw[Pu (by rw[hl];exact hc) (λb nx e=>by rw[(w5 c).2 ⟨b,nx,e⟩]at hv;cases hv),ym,br,ax hc];simp[hv]
  ·have e:jb vis 0 (ix ι Z.length Z' (fB vis 0 σ)) σ=ix ι Z.length Z' σ:=by
    refine bZ λc=>?_;rw[GJ vis _ σ 0 c (by rw[DU q0,hl];omega),br];by_cases hc:c < σ.length
    ·cases hv:vis c with
     |false =>
      rw[if_pos ⟨hc,rfl⟩,Pu hc (λb nx e=>by rw[(w5 c).2 ⟨b,nx,e⟩]at hv;cases hv)]
     |true =>
      rw[if_neg (by simp)];obtain⟨b,nx,rfl⟩:=(w5 c).1 hv;have e1:=ER (ι:=ι) wj (m:=(fB vis 0 σ).length) (λb nx=>by rw[hl];exact hb b nx) (Z':=Z') rfl q0 (b:=b) (by omega);have e2:=ER (ι:=ι) wj (m:=σ.length) hb (Z':=Z') rfl q0 (b:=b) (by omega);rw[hl]at e1;rw[show lX ι Z.length σ.length b = ι b from if_pos nx]at e1 e2
      rw[e1,e2]
    ·rw [if_neg (λh=>hc h.1)];by_cases lS:c < σ.length+(Z'.length-Z.length)
     ·have e0:lX ι Z.length σ.length (c-σ.length+Z.length)=c:=by unfold lX;rw[if_neg (by omega)];omega
      have e1:=ER (ι:=ι) wj (m:=(fB vis 0 σ).length) (λb nx=>by rw[hl];exact hb b nx) (Z':=Z') rfl q0 (b:=c-σ.length+Z.length) (by omega);have e2:=ER (ι:=ι) wj (m:=σ.length) hb (Z':=Z') rfl q0 (b:=c-σ.length+Z.length) (by omega);rw[hl]at e1;rw[e0]at e1 e2;rw[e1,e2]
     ·rw[bB (by rw[DU q0,hl];omega),bB (by rw[DU q0];omega)]
   rw[e];exact q3
end
section
variable {P:Program}{lo:Ctx}{Q:cB->St->Prop}{ops:Array Oper}{fs:List Fp}{n0 N:Nat}{TM:Nat->List ah}{SS:Nat->av}{X:Nat->Nat->Prop}{base mb:Nat}{D:List Deferred}
def l8 (P:Program)(lo:Ctx)(X:Nat->Nat->Prop)(base mb:Nat)(D:List Deferred)(b:Frame)(k:List Item)(cs:List Frame)(R:av->Env->World->Machine->Prop)(z:Option Nat)(Cn:List ah)(z7 σ:av)(β:Env)(w:World)(m:Machine):Prop :=
 (z=none/\∃β' a' w',Rel X base mb D ⟨Cn,z7⟩ β' a' w'/\Ext lo.n σ β w z7 β' w'/\Steps P m (lone (b.atR a' k) cs w'))\/z≠none/\R σ β w m
theorem l8.of {R:av->Env->World->Machine->Prop} (hR:∀ {σ σ1:av} {β fI:Env} {w w1:World} {m m1:Machine},Ext lo.n σ β w σ1 fI w1->Steps P m m1->R σ1 fI w1 m1->R σ β w m) {b:Frame} {k:List Item} {cs:List Frame} {z:Option Nat} {Cn:List ah} {z7 σ σ':av} {β fI:Env} {w w1:World} {m m1:Machine} (he:Ext lo.n σ β w σ' fI w1) (hs:Steps P m m1) (h:l8 P lo X base mb D b k cs R z Cn z7 σ' fI w1 m1) :
  l8 P lo X base mb D b k cs R z Cn z7 σ β w m:=by
 rcases h with⟨h0,β',a',w',h1,h2,h3⟩|⟨hz,h⟩
 ·exact .inl ⟨h0,β',a',w',h1,he.trans h2,hs.trans h3⟩
 ·exact .inr ⟨hz,hR he hs h⟩
theorem OO {R:av->Env->World->Machine->Prop} (hR:∀ {σ σ1:av} {β fI:Env} {w w1:World} {m m1:Machine},Ext lo.n σ β w σ1 fI w1->Steps P m m1->R σ1 fI w1 m1->R σ β w m) {z:Option Nat} {dd sk:Nat->Prop} (hz:∀i0,z=some i0->i0<ops.size/\dd i0) (hdd:∀j,dd j->∃i0,z=some i0/\(j=i0\/ku ops i0 j)) (hk:vp ops fs n0 N) (iG:lo.n<=n0) (hN:n0<=N)
  (hT:∀i o,ops[i]? = some o->((pB P ops (dG fs i) o (TM i) (SS i) (TM (i+1)) (SS (i+1))\/z8 P ops.size o (TM i) SS i (TM (i+1))/\(dG fs i).wr=[])\/(dd i\/sk i)/\(∃v,TM (i+1)=put (TM i) o.dst v)/\SS (i+1)=SS i)) (FH:∀i,i<=ops.size->(TM i).length=(TM 0).length) (Jw:∀i,i<=ops.size->(SS i).length=N)
  (b:Frame) (k:List Item) (cs:List Frame)
  (hP:∀i o,z=some i->ops[i]? = some o->∀(tm:List ah) (σ:av) (β:Env) (a:Act) (w:World) (rest:List Nat) (listed:Array Bool),listed.size=ops.size ->
   ga ops.size (λi l=>∃o,ops[i]? = some o/\o.dst=some l) (λi l=>(TM i).getD l .undef) (λj=>listed.getD j false=true) (λl=>tm.getD l .undef) ->
   ga ops.size (λi c=>c∈(dG fs i).wr) (λi c=>(SS i)[c]?) (λj=>listed.getD j false=true) (λc=>σ[c]?) ->
   (∀i j,ku ops i j->listed.getD j false=true->listed.getD i false=true)->listed.getD i false=false->(∀j,ku ops j i->listed.getD j false=true)->tm.length=(TM 0).length->σ.length=N->Rel X base mb D ⟨tm,σ⟩ β a w ->
   (∃fuel t,rest=Region.linearise.go .any ops fuel t (listed.setIfInBounds i true) []/\oq (listed.setIfInBounds i true)<=fuel)->R σ β w (lone (b.atR a (.inRegion ops (i :: rest):: k)) cs w)) :
  ∀(fuel t:Nat) (listed:Array Bool) (tm:List ah) (σ:av) (β:Env) (a:Act) (w:World),listed.size=ops.size->oq listed<=fuel ->
   (∀i j,ku ops i j->listed.getD j false=true->listed.getD i false=true) ->
   ga ops.size (λi l=>∃o,ops[i]? = some o/\o.dst=some l) (λi l=>(TM i).getD l .undef) (λj=>listed.getD j false=true) (λl=>tm.getD l .undef) ->
   ga ops.size (λi c=>c∈(dG fs i).wr) (λi c=>(SS i)[c]?) (λj=>listed.getD j false=true) (λc=>σ[c]?) ->
   tm.length=(TM 0).length->σ.length=N->(∀i c,i<ops.size->listed.getD i false=false->(dG fs i).nm=some c->β c=none)->Rel X base mb D ⟨tm,σ⟩ β a w->(∀j,listed.getD j false=true->¬dd j)->(∀j,sk j->j<ops.size->listed.getD j false=true) ->
   l8 P lo X base mb D b k cs R z (TM ops.size) (SS ops.size) σ β w (lone (b.atR a (.inRegion ops (Region.linearise.go .any ops fuel t listed []):: k)) cs w):=by
 have C2:∀i l,i<ops.size->¬(∃o,ops[i]? = some o/\o.dst=some l)->(TM (i+1)).getD l .undef=(TM i).getD l .undef:=by
  intro i l hi hn;have ho:ops[i]? = some ops[i]:=aE hi;have j_:∀v,(put (TM i) ops[i].dst v).getD l .undef=(TM i).getD l .undef:=by
   intro v;cases hd:ops[i].dst with
   |none=>rfl
   |some d =>
    have dL:d≠l:=λe=>hn ⟨ops[i],ho,by rw[hd,e]⟩;simp only[put,List.getD,b_ dL]
  rcases hT i _ ho with((⟨_,h,_⟩|⟨_,r,σ1,_,_,h,_⟩) | ⟨⟨_,_,_,_,_,_,_,_,h,_⟩,_⟩) | ⟨_,⟨_,h⟩,_⟩<;>rw[h]<;>exact j_ _
 have AA:∀i c,i<ops.size->¬c∈(dG fs i).wr->(SS (i+1))[c]? = (SS i)[c]?:=by
  intro i c hi hn;have ho:ops[i]? = some ops[i]:=aE hi;rcases hT i _ ho with((⟨_,_,h⟩|⟨_,r,σ1,_,h2,_,h⟩) | ⟨⟨_,_,_,_,_,_,_,_,_,h⟩,_⟩) | ⟨_,_,h⟩
  rotate_right
  ·rw[h]
  rotate_right
  ·rw[h]
  ·rw[h]
  ·rw[h,yk (by rw[BK h2,dW,uj]),br,if_neg hn]
 intro fuel;have finish:∀(listed:Array Bool) (tm:List ah) (σ:av) (β:Env) (a:Act) (w:World),(∀j,j<ops.size->listed.getD j false=true) ->
   ga ops.size (λi l=>∃o,ops[i]? = some o/\o.dst=some l) (λi l=>(TM i).getD l .undef) (λj=>listed.getD j false=true) (λl=>tm.getD l .undef) ->
   ga ops.size (λi c=>c∈(dG fs i).wr) (λi c=>(SS i)[c]?) (λj=>listed.getD j false=true) (λc=>σ[c]?) ->
   tm.length=(TM 0).length->σ.length=N->Rel X base mb D ⟨tm,σ⟩ β a w->(∀j,listed.getD j false=true->¬dd j) ->
   l8 P lo X base mb D b k cs R z (TM ops.size) (SS ops.size) σ β w (lone (b.atR a (.inRegion ops [] :: k)) cs w):=by
  intro listed tm σ β a w fj i1 i2 l1 l2 hrel tD;have F3:z=none:=by
   cases Dj:z with
   |none=>rfl
   |some i0=>obtain⟨q1,q2⟩:=hz i0 Dj;exact absurd q2 (tD i0 (fj i0 q1))
  have e1:tm=TM ops.size:=by
   apply bZ;intro l;have h1:tm.getD l .undef=(TM ops.size).getD l .undef:=ga.done C2 i1 fj l;have hl:=FH ops.size (ae _);by_cases bx:l<tm.length
   ·have aL:l<(TM ops.size).length:=by omega
    rw[ax bx,ax aL];simp only[List.getD,ax bx,ax aL,bd]at h1;rw[h1]
   ·rw[bB (by omega),bB (by omega)]
  have e2 : σ=SS ops.size:=by
   apply bZ;intro c;exact ga.done AA i2 fj c
  subst e1 e2;exact .inl ⟨F3,β,a,w,hrel,Ext.refl _ _ _ _,.one stepR_region_end⟩
 induction fuel with
 |zero =>
  intro t listed tm σ β a w eM Ba gD i1 i2 l1 l2 vK hrel tD _;simp only[Region.linearise.go,mU];exact finish listed tm σ β a w (λj hj=>N8 (by omega) (by omega)) i1 i2 l1 l2 hrel tD
 | succ fuel ih =>
  intro t listed tm σ β a w eM Ba gD i1 i2 l1 l2 vK hrel tD Ca;simp only[Region.linearise.go];change l8 P lo X base mb D b k cs R z (TM ops.size) (SS ops.size) σ β w (lone (b.atR a (.inRegion ops (match (Region.ready .any ops listed)[t % (Region.ready .any ops listed).length]? with
   |some i=>Region.linearise.go .any ops fuel (t / (Region.ready .any ops listed).length) (listed.setIfInBounds i true) [i]
   |none=>[].reverse):: k)) cs w)
  cases hi:(Region.ready .any ops listed)[t % (Region.ready .any ops listed).length]? with
  | none =>
   have A1:Region.ready .any ops listed=[]:=by
    cases hr:Region.ready .any ops listed with
    |nil=>rfl
    |cons x xs =>
     rw[hr]at hi;have bx:t % (x :: xs).length<(x :: xs).length:=Nat.mod_lt _ (by simp);simp at hi;simp at bx;omega
   refine finish listed tm σ β a w (λj=>?_) i1 i2 l1 l2 hrel tD
   induction j using Nat.strongRecOn with
   | _ j Sg =>
    intro hj;cases hv:listed.getD j false with
    |true=>rfl
    | false =>
     have j0:j∈Region.ready .any ops listed:=mem_ready.2 ⟨by
      have:j<listed.size:=by omega
      simpa[this] using hv,ops[j],aE hj,λe he hb=>by
       have bx:e.on<j:=(ku.edge (aE hj) he hb).lt hk.down;exact Sg e.on bx (by omega)⟩
     rw[A1]at j0;cases j0
  | some i =>
   simp only[];rw[linearise_go_acc,qV,sj];obtain⟨yA,o,ho,fj⟩:=mem_ready.1 (nn hi);have fA:i<ops.size:=(aQ.1 ho).1;have zn:listed.getD i false=false:=by
    have:i<listed.size:=by omega
    simpa[this] using yA
   have sT:¬(listed.getD i false=true):=by rw[zn];simp
   have aD:∀j,ku ops j i->listed.getD j false=true:=by
    intro j hb;generalize dm:i=i' at hb
    induction hb with
    | @edge j' o' e h1 h2 h3 =>
     subst dm;rw[ho]at h1;cases h1;exact fj e h2 h3
    |trans h1 h2 _ qj=>exact gD _ _ h1 (qj dm)
   have wV:∀l,l∈o.looksAt ops\/o.dst=some l->∀j,j<ops.size->j≠i->(∃oj,ops[j]? = some oj/\oj.dst=some l)->ku ops i j\/ku ops j i:=by
    rintro l hl j hj dL ⟨oj,h1,h2⟩;exact hk.tmp i o ho l hl j oj h1 dL h2
   have r7:∀l,l∈o.looksAt ops->tm.getD l .undef=(TM i).getD l .undef:=λl hl=>ga.read hk.down C2 gD i1 fA sT aD (wV l (.inl hl));have yO:∀c,c ∉ (dG fs i).hd->σ[c]? = (SS i)[c]?:=λc hc=>ga.read hk.down AA gD i2 fA sT aD (hk.see i fA c hc);have Rt:=FH i (by omega);have FG:=Jw i (by omega);have wU:dW (dG fs i) σ=dW (dG fs i) (SS i):=by
    apply bZ;intro c;simp only[dW,ym,br];by_cases hc:c∈(dG fs i).hd
    ·have e:(!(dG fs i).hd.contains c)=false:=by simp[hc]
     rw[e];by_cases bx:c<N
     ·rw[ax (l:=σ) (by omega),ax (l:=SS i) (by omega)];rfl
     ·rw[bB (l:=σ) (by omega),bB (l:=SS i) (by omega)]
    ·rw[yO c hc]
   have fe:(dG fs i).name σ=(dG fs i).name (SS i):=by simp only[Fp.name,l2,FG]
   have tA:nc ops tm o=nc ops (TM i) o:=X1 (by omega) r7;have j_:∀(l:Nat) (v:ah),(∃o',ops[i]? = some o'/\o'.dst=some l)->(put tm o.dst v).getD l .undef=(put (TM i) o.dst v).getD l .undef:=by
    rintro l v ⟨o',h1,h2⟩;rw[ho]at h1;cases h1;rw[h2];simp only[put,List.getD,qp];by_cases bx:l<tm.length
    ·rw[ax bx,ax (show l<(TM i).length by omega)];rfl
    ·rw[bB (en bx),bB (show(TM i).length<=l by omega)]
   have tJ:∀(l:Nat) (v:ah),¬(∃o',ops[i]? = some o'/\o'.dst=some l)->(put tm o.dst v).getD l .undef=tm.getD l .undef:=by
    intro l v hn;cases hd:o.dst with
    |none=>rfl
    |some d =>
     have dL:d≠l:=λe=>hn ⟨o,ho,by rw[hd,e]⟩;simp only[put,List.getD,b_ dL]
   have fS:∀j,((listed.setIfInBounds i true).getD j false=true)↔(listed.getD j false=true\/j=i):=by
    intro j;constructor
    ·intro h;by_cases e:i=j
     ·exact .inr e.symm
     ·rw[s_ false e]at h;exact .inl h
    ·rintro(h|rfl)
     ·exact getD_set_true h
     ·have:j<listed.size:=by omega
      simp[this]
   have Ax:(λj=>(listed.setIfInBounds i true).getD j false=true)=λj=>listed.getD j false=true\/j=i:=funext λj=>propext (fS j);have xH:∀i' j,ku ops i' j->(listed.setIfInBounds i true).getD j false=true->(listed.setIfInBounds i true).getD i' false=true:=by
    intro i' j hb hj;rw[fS]at hj ⊢;rcases hj with hj|rfl
    ·exact .inl (gD i' j hb hj)
    ·exact .inl (aD i' hb)
   have Fo:=hT i o ho;by_cases Fu:dd i
   ·obtain⟨i0,F4,yv⟩:=hdd i Fu;rcases yv with rfl|hb
    ·refine .inr ⟨by rw[F4];simp,hP i o F4 ho tm σ β a w _ listed eM i1 i2 gD zn aD l1 l2 hrel ⟨fuel,_,rfl,?_⟩⟩;have:=Le (i:=i) yA;omega
    ·exact absurd (hz i0 F4).2 (tD i0 (aD i0 hb))
   have Fo:=Fo.resolve_right λh=>h.1.elim Fu λhs=>sT (Ca i hs fA);generalize tL:Region.linearise.go .any ops fuel (t / (Region.ready .any ops listed).length) (listed.setIfInBounds i true) []=rest;have step:∃kC σ' fI a1 w1,Rel X base mb D ⟨kC,σ'⟩ fI a1 w1/\Ext 0 σ β w σ' fI w1/\(∀c,c≠(dG fs i).name σ->c < σ.length->fI c = β c)/\kC.length=tm.length/\σ'.length = σ.length /\
     (∀l,(∃o',ops[i]? = some o'/\o'.dst=some l)->kC.getD l .undef=(TM (i+1)).getD l .undef)/\(∀l,¬(∃o',ops[i]? = some o'/\o'.dst=some l)->kC.getD l .undef=tm.getD l .undef) /\
     (∀c,c∈(dG fs i).wr->σ'[c]? = (SS (i+1))[c]?)/\(∀c,c ∉ (dG fs i).wr->σ'[c]? = σ[c]?) /\
     Steps P (lone (b.atR a (.inRegion ops (i :: rest):: k)) cs w) (lone (b.atR a1 (.inRegion ops rest :: k)) cs w1):=by
    rcases Fo with(⟨g1,g2,g3⟩|⟨g1,r,σ1,g2,g3,g4,g5⟩) | ⟨⟨g1,t0,x0,l0,r,g2,g3,g4,g5,g6⟩,g7⟩
    rotate_right
    ·have wb:nc ops tm o=some true:=by unfold nc;rw[g1]
     have hx:ev tm x0=ev (TM i) x0:=Lo r7 x0 (by rw[g2];simp[Op.operands]);obtain⟨b0,ur⟩:=Yr l0 (ev (TM i) x0);obtain⟨k0,wR,lJ⟩:=i2.some b0;have tD:jW σ l0 (ev tm x0)=some r:=by rw[hx,ur σ (SS k0) lJ];exact g4 k0 wR
     have Fv:l7 P o.op tm (dW Fp.no σ) (Fp.no.name σ) r σ:=by
      have uX:dW Fp.no σ = σ:=by
       apply bZ;intro c;simp only[dW,ym,br,Fp.no];cases σ[c]?<;>rfl
      rw[uX,g2];simp only[l7,dJ,g3,fq,tD,bD]
     have sV:fG Fp.no.wr 0 σ (dW Fp.no σ):=by
      have uX:dW Fp.no σ = σ:=by
       apply bZ;intro c;simp only[dW,ym,br,Fp.no];cases σ[c]?<;>rfl
      rw[uX];have:∀(i:Nat) (a:av),fG Fp.no.wr i a a:=λi a=>by
       induction a generalizing i with
       |nil=>trivial
       |cons x a ih=>exact⟨.inr rfl,ih _⟩
      exact this 0 σ
     obtain⟨fI,a1,w1,q1,q2,q3,q4⟩:=l7.step (rest:=rest) hrel ho wb Fv sV (λc hc=>by simp[Fp.no]at hc) (hrel.s.o_ _ (ae _)) b k cs;have Rz:ew Fp.no.wr 0 σ σ = σ:=by
      apply bZ;intro c;rw[yk rfl];split<;>rfl
     rw[Rz]at q1 q2;refine⟨_,σ,fI,a1,w1,q1,q2,λc _ hc=>q3 c (by simp only[Fp.name,Fp.no,dD];omega) hc,BH _ _ _,rfl,λl hl=>by rw[g5];exact j_ l _ hl,λl hl=>tJ l _ hl,λc hc=>?_,λ_ _=>rfl,q4⟩;rw[g7]at hc;cases hc
    ·have hw:=Cp hrel (tA.trans g1);refine⟨put tm o.dst gone,σ,β,a.put o.dst undef,w,hrel.next hrel.s (Ext.refl 0 _ _ _) (λ_ _ h=>h) (.qf _) o.dst,Ext.refl _ _ _ _,λ_ _ _=>rfl,BH _ _ _,rfl,
      λl hl=>by rw[g2];exact j_ l _ hl,λl hl=>tJ l _ hl,λc hc=>?_,λ_ _=>rfl,?_⟩
     ·rw[g3];exact ga.read hk.down AA gD i2 fA sT aD (hk.own i fA c hc).2.2
     ·have:=stepR_op_skip (P:=P) (b:=b) (a:=a) (ops:=ops) (i:=i) (rest:=rest) (k:=k) (cs:=cs) (w:=w) (by simp[ho,hw]);rw[ho]at this;exact .one this
    ·have Fv:l7 P o.op tm (dW (dG fs i) σ) ((dG fs i).name σ) r σ1:=by
      rw[wU,fe];exact g2.congr (Lo r7)
     have sV:fG (dG fs i).wr 0 σ1 (dW (dG fs i) σ):=by rw[wU];exact g3
     have A2 : β ((dG fs i).name σ)=none:=by
      unfold Fp.name;cases hn:(dG fs i).nm with
      |none=>exact hrel.s.o_ _ (ae _)
      |some c=>exact vK i c fA zn hn
     have uW : σ1.length = σ.length:=by rw[BK sV,dW,uj]
     have FF : σ1.length=(SS i).length:=by omega
     obtain⟨fI,a1,w1,q1,q2,q3,q4⟩:=l7.step (rest:=rest) hrel ho (tA.trans g1) Fv sV (λc hc=>(hk.own i fA c hc).2.1) A2 b k cs;refine⟨_,_,fI,a1,w1,q1,q2,q3,BH _ _ _,KO uW,λl hl=>by rw[g4];exact j_ l _ hl,λl hl=>tJ l _ hl,λc hc=>?_,λc hc=>?_,q4⟩
     ·rw[g5,yk uW,yk FF,br,if_pos hc,if_pos hc]
     ·rw[yk uW,br,if_neg hc]
   obtain ⟨kC,σ',fI,a1,w1,s1,s2,s3,s4,s5,s6,s7,s8,s9,SA⟩:=step;have ow:=ih (t / (Region.ready .any ops listed).length) (listed.setIfInBounds i true) kC σ' fI a1 w1 (by simp[eM]) (by have:=Le yA;omega) xH
    (by rw[Ax];exact ga.step hk.down gD i1 fA sT (λl hl=>wV l (.inr (by obtain⟨o',h1,h2⟩:=hl;rw[ho]at h1;cases h1;exact h2))) s6 s7)
    (by rw[Ax];exact ga.step hk.down gD i2 fA sT (λc hc=>(hk.own i fA c hc).2.2) s8 s9)
    (by omega) (by omega)
    (fun j c hj zU JH=>by
     have Eg:j≠i:=λe=>by rw[e]at zU;have:=(fS i).2 (.inr rfl);rw[this]at zU;cases zU
     have FI:listed.getD j false=false:=by rw[s_ false (gV Eg)]at zU;exact zU
     obtain⟨m1,m2,m3⟩:=hk.Gd j hj c JH;rw[s3 c ?_ (by omega)]
     ·exact vK j c hj FI JH
     ·unfold Fp.name;cases hn:(dG fs i).nm with
      |none=>simp only[dD];omega
      |some c'=>exact λe=>m3 i fA (gV Eg) (by rw[hn,e];rfl)) s1
    (λj hj=>by rcases(fS j).1 hj with h|rfl;exact tD j h;exact Fu) (λj hs hj=>(fS j).2 (.inl (Ca j hs hj)))
   rw[tL]at ow;have lg:Ext lo.n σ β w σ' fI w1:=⟨s2.os,s2.tape,s2.output,s2.size,s2.cell,s2.block,s2.jq,λc hc=>s3 c (by
    unfold Fp.name;cases hn:(dG fs i).nm with
    |none=>simp only[dD];omega
    |some c'=>have:=(hk.Gd i fA c' hn).1;simp only[bd];omega) (by omega)⟩
   exact l8.of hR lg SA ow
theorem Pj {ops:Array Oper}{i j:Nat}(h:((uz [] ops.toList).getD j 0).testBit i=true):ku ops i j:=Ot ops.toList [] (by simp) (λj i h=>by simp at h) _ _ h
theorem Ypi (hd:kH ops=true):∀(fuel m d t:Nat) (listed:Array Bool),ops.size=m+d->listed.size=ops.size->(∀j,j<m->listed.getD j false=true)->(∀j,m<=j->j<ops.size->listed.getD j false=false) ->
  (∀i j,m<=i->i<j->j<ops.size->ku ops i j)->oq listed<=fuel->Region.linearise.go .any ops fuel t listed []=List.range' m d:=by
 intro fuel
 induction fuel with
 | zero =>
  intro m d t listed h1 h2 h3 h4 h5 h6;cases d with
  |zero=>rfl
  |succ d =>
   have:=N8 (listed:=listed) (by omega) (j:=m) (by omega);rw[h4 m (ae _) (by omega)]at this;cases this
 | succ fuel ih =>
  intro m d t listed h1 h2 h3 h4 h5 h6;have wb:∀j,j<ops.size->(listed.getD j true=false↔listed.getD j false=false):=λj hj=>by
   have:j<listed.size:=by omega
   simp[au,aE this]
  have j0:∀j,j∈Region.ready .any ops listed->j=m/\j<ops.size:=λj hj=>by
   obtain⟨q1,o,q2,q3⟩:=mem_ready.1 hj;have AV:j<ops.size:=(aQ.1 q2).1;have hjm:m<=j:=by
    rcases fZ j m with h|h
    ·have:=h3 j h;rw[(wb j AV).1 q1]at this;cases this
    ·exact h
   refine⟨?_,AV⟩;rcases fZ m j with h|h
   ·exfalso;have hb:=h5 m j (ae _) h AV;have key:∀i j',ku ops i j'->j'=j->listed.getD i false=true:=by
     intro i j' hb
     induction hb with
     | @edge j1 o1 e g1 g2 g3 =>
      intro e1;subst e1;rw[q2]at g1;cases g1;exact q3 e g2 g3
     | @trans a b' c' g1 g2 lZ qj =>
      intro e1;have v8:=qj e1;have bx:=g1.lt hd;have zR:=g1.lt_size;rcases fZ b' m with h|h
      ·exact h3 a (by omega)
      ·rw[h4 b' h zR]at v8;cases v8
    have:=key m j hb rfl;rw[h4 m (ae _) (by omega)]at this;cases this
   ·omega
  simp only[Region.linearise.go];change (match (Region.ready .any ops listed)[t % (Region.ready .any ops listed).length]? with
   |some i=>Region.linearise.go .any ops fuel (t / (Region.ready .any ops listed).length) (listed.setIfInBounds i true) [i]
   |none=>[].reverse) = _
  cases d with
  |zero =>
   have hr:Region.ready .any ops listed=[]:=List.eq_nil_iff_forall_not_mem.2 λj hj=>by have:=j0 j hj;omega
   rw[hr];rfl
  | succ d =>
   have hm:m∈Region.ready .any ops listed:=mem_ready.2 ⟨(wb m (by omega)).2 (h4 m (ae _) (by omega)),ops[m],aE (by omega),λe he hb=>h3 _ ((ku.edge (aE (by omega)) he hb).lt hd)⟩;have bx:t % (Region.ready .any ops listed).length<(Region.ready .any ops listed).length:=Nat.mod_lt _ (List.length_pos_of_mem hm);rw[ax bx];have he:=(j0 _ (ay bx)).1;simp only[];rw[he,linearise_go_acc,qV,sj,jg];congr 1;have fS:∀j,(listed.setIfInBounds m true).getD j false=true↔listed.getD j false=true\/j=m:=by
    intro j;have xl:m<listed.size:=by omega
    simp only[au,bK];by_cases e:m=j
    ·subst e;simp[xl]
    ·simp[e,gV e]
   refine ih (m+1) d _ _ (by omega) (by simpa using h2) (λj hj=>(fS j).2 ?_) (λj hj AV=>?_) (λi j hi yw AV=>h5 i j (by omega) yw AV) ?_
   ·rcases fZ j m with h|h
    ·exact .inl (h3 j h)
    ·exact .inr (by omega)
   ·rw[<-dB,fS];rintro(h|h)
    ·rw[h4 j (by omega) AV]at h;cases h
    ·omega
   ·have:=Le (i:=m) ((wb m (by omega)).2 (h4 m (ae _) (by omega)));omega
def oZ (ops:Array Oper)(m:Nat)(T:List ah):Nat->List ah
 |0=>T
 |k+1=>put (oZ ops m T k) ((ops[m+k]?).bind Oper.dst) .undef
theorem OG (m:Nat)(T:List ah):∀k,(oZ ops m T k).length=T.length
 |0=>rfl
 |k+1=>by rw[oZ,BH,OG m T k]
def D1 (P:Program)(lo:Ctx)(Q:cB->St->Prop)(k:List KI)(ops:Array Oper)(o:Oper)(f:Operand)(args:List Operand)(l:List Oper)(st:St):Prop :=
 nc ops st.tm o=some true/\ak P (ev st.tm f) (args.map (ev st.tm)) st.σ (λr σ'=>lo.n<=σ'.length->iw P lo Q k ops l [] (put st.tm o.dst r) σ')
theorem L6 {k:List KI} {o:Oper} {f:Operand} {args:List Operand} {l:List Oper} {tm:List ah} {σ:av} (hg:nc ops tm o=some true) (h:ak P (ev tm f) (args.map (ev tm)) σ (λr σ'=>lo.n<=σ'.length->iw P lo Q k ops l [] (put tm o.dst r) σ')) :
  D1 P lo Q k ops o f args l ⟨tm,σ⟩:=⟨hg,h⟩
theorem aC.oN {k:List KI} {id:Nat} {tm:List ah} {σ:av} (fs:List Fp) (n0 N:Nat) (hm:P.follows .mixedOrders=true) (jB:rj ops fs n0 N=true) (h0 : σ.length=n0) (hN:n0<=N) (m:Nat) {o:Oper} (B9:ops.toList[m]? = some o)
  {f:Operand} {args:Array Operand} {ts:Array TypeId} (hop:o.op=.call { callee:=.value f,args,argTypes:=ts })
  (tC:(((List.range m).all λi=>((uz [] ops.toList).getD m 0).testBit i)&&(List.range ops.size).all λj=>decide (j<=m)||((uz [] ops.toList).getD j 0).testBit m)=true) (F0:((List.range ops.size).all λj=>decide (j<m)||(dG fs j).wr.isEmpty)=true)
  (h:iw P lo (λ_ st=>D1 P lo Q k ops o f args.toList (ops.toList.drop (m+1)) st) [] ops (ops.toList.take m) fs tm (cM N σ)) :
  aC P lo Q (.code (.region id ops true):: k) .normal ⟨tm,σ⟩:=by
 have ho:ops[m]? = some o:=by rw[<-fQ];exact B9
 have sF:m<ops.size:=(aQ.1 ho).1;obtain rfl:ops[m]=o:=(aQ.1 ho).2;have hk:=Nx jB;obtain⟨TM,SS,e1,e2,e3,e4⟩:=Gy _ _ _ _ h;have hlen:(ops.toList.take m).length=m:=by simp;omega
 rw[hlen]at e4;obtain⟨e4a,e4⟩:nc ops (TM m) ops[m]=some true/\ak P (ev (TM m) f) (args.toList.map (ev (TM m))) (SS m) (λr σ'=>lo.n<=σ'.length->iw P lo Q k ops (ops.toList.drop (m+1)) [] (put (TM m) ops[m].dst r) σ'):=e4;rw[aG]at tC;have El:∀i,i<m->ku ops i m:=λi hi=>Pj (bu.1 tC.1 i (cd.2 hi));have A3:∀j,m<j->j<ops.size->ku ops m j:=λj RA hj=>by
  have:=bu.1 tC.2 j (cd.2 hj);rw[decide_eq_false (by omega:¬j<=m),cD]at this;exact Pj this
 have R_:∀j,m<=j->j<ops.size->(dG fs j).wr=[]:=λj RA hj=>by
  have:=bu.1 F0 j (cd.2 hj);rw[decide_eq_false (by omega:¬j<m),cD]at this;exact List.isEmpty_iff.1 this
 have AY:∀j,j<ops.size->j≠m->ku ops m j\/ku ops j m:=λj hj dL=>by
  rcases fZ j m with h|h
  ·exact .inr (El j h)
  ·exact .inl (A3 j (by omega) hj)
 have C3:∀i o,i<m->ops[i]? = some o->pB P ops (dG fs i) o (TM i) (SS i) (TM (i+1)) (SS (i+1)):=λi o od hi=>e3 i o (by rw[fh,if_pos od];simpa using hi);have hl:∀i,i<=m->(TM i).length=(TM 0).length/\(SS i).length=N:=by
  intro i
  induction i with
  |zero=>intro _;exact⟨rfl,by rw[e2,Ln (by omega)]⟩
  |succ i ih =>
   intro hi;have:=(C3 i ops[i] (by omega) (aE (by omega))).len;have:=ih (by omega);omega
 let pg:Nat->List ah:=λi=>if i<=m then TM i else oZ ops m (TM m) (i-m)
 let vq:Nat->av:=λi=>if i<=m then SS i else SS m
 have tT:∀i,i<=m->pg i=TM i:=λi hi=>if_pos hi;have tS:∀i,i<=m->vq i=SS i:=λi hi=>if_pos hi;have tN:∀i,m<=i->(hi:i<ops.size)->pg (i+1)=put (pg i) ops[i].dst .undef:=λi od hi=>by
  have e1:pg (i+1)=oZ ops m (TM m) (i-m+1):=by simp only[pg];rw[if_neg (by omega),show i+1-m=i-m+1 by omega]
  have e2:pg i=oZ ops m (TM m) (i-m):=by
   by_cases h:i=m
   ·subst h;rw[tT i (ae _),dF];rfl
   ·simp only[pg];rw[if_neg (by omega)]
  rw[e1,e2,oZ,show m+(i-m)=i by omega,aE hi];rfl
 have Dw:∀i,m<=i->vq i=SS m:=λi od=>by
  by_cases h:i=m
  ·subst h;exact tS i (ae _)
  ·exact if_neg (by omega)
 have C2:∀i l,i<ops.size->¬(∃o,ops[i]? = some o/\o.dst=some l)->(pg (i+1)).getD l .undef=(pg i).getD l .undef:=by
  intro i l hi hn;have ho:ops[i]? = some ops[i]:=aE hi;have j_:∀v,(put (pg i) ops[i].dst v).getD l .undef=(pg i).getD l .undef:=by
   intro v;cases hd:ops[i].dst with
   |none=>rfl
   |some d =>
    have dL:d≠l:=λe=>hn ⟨ops[i],ho,by rw[hd,e]⟩;simp only[put,List.getD,b_ dL]
  by_cases od:i<m
  ·have h1:=C3 i ops[i] od ho;rw[tT (i+1) (by omega)];rw[tT i (by omega)]at j_ ⊢;rcases h1 with⟨_,g,_⟩|⟨_,r,σ1,_,_,g,_⟩<;>rw[g]<;>exact j_ _
  ·rw[tN i (by omega) hi];exact j_ _
 have AA:∀i c,i<ops.size->¬c∈(dG fs i).wr->(vq (i+1))[c]? = (vq i)[c]?:=by
  intro i c hi hn;have ho:ops[i]? = some ops[i]:=aE hi;by_cases od:i<m
  ·have h1:=C3 i ops[i] od ho;rw[tS (i+1) (by omega),tS i (by omega)];rcases h1 with⟨_,_,g⟩|⟨_,r,σ1,_,g2,_,g⟩
   ·rw[g]
   ·rw[g,yk (by rw[BK g2,dW,uj]),br,if_neg hn]
  ·rw[Dw (i+1) (by omega),Dw i (by omega)]
 intro X base mb D β a w b kk cs h1 h2 h3 _;simp only at h1;have hrel:Rel X base mb D ⟨pg 0,vq 0⟩ β a { w with drawn:=w.drawn+1 }:=by
  have:=OE (n:=w.drawn+1) h3;rw[tT 0 (aj _),tS 0 (aj _),e1,e2];exact⟨this.s.pad (by simp only;omega),this.n,λj hj=>by rw[Ko];exact this.t j hj,this.d⟩
 have p8:=OO (P:=P) (lo:=lo) (ops:=ops) (fs:=fs) (n0:=n0) (N:=N) (TM:=pg) (SS:=vq) (X:=X) (base:=base) (mb:=mb) (D:=D)
  (R:=λσ β w Gc=>mb<=w.heap.size->∃e eG β' a' w',aC P lo Q k e eG/\lo.n<=eG.σ.length/\Rel X base mb D eG β' a' w'/\Ext lo.n σ β w eG.σ β' w'/\BF P Gc b kk cs e a' w')
  (λhe hs f B7=>let ⟨e,eG,β',a',w',g1,g2,g3,g4,g5⟩:=f (dg B7 he.size);⟨e,eG,β',a',w',g1,g2,g3,he.trans g4,.of_steps hs g5⟩) (z:=some m) (dd:=λj=>m<=j/\j<ops.size) (sk:=λ_=>False)
  (λi0 yv=>by cases yv;exact⟨sF,ae _,sF⟩) (λj hj=>⟨m,rfl,(Nat.eq_or_lt_of_le hj.1).imp Eq.symm λh=>A3 j h hj.2⟩) hk (by omega) hN
  (fun i o ho=>by
   by_cases od:i<m
   ·rw[tT i (by omega),tT (i+1) (by omega),tS i (by omega),tS (i+1) (by omega)];exact .inl (.inl (C3 i o od ho))
   ·have FC:i<ops.size:=(aQ.1 ho).1;have Ek:ops[i]=o:=by rw[aE FC]at ho;exact aS ho
    refine .inr ⟨.inl ⟨by omega,FC⟩,⟨.undef,?_⟩,?_⟩
    ·rw[tN i (by omega) FC,Ek]
    ·rw[Dw (i+1) (by omega),Dw i (by omega)])
  (λi hi=>by
   by_cases od:i<=m
   ·rw[tT i od,tT 0 (aj _)];exact(hl i od).1
   ·simp only[pg];rw[if_neg od,if_pos (aj _),OG];exact(hl m (ae _)).1)
  (λi hi=>by
   by_cases od:i<=m
   ·rw[tS i od];exact(hl i od).2
   ·simp only[vq];rw[if_neg od];exact(hl m (ae _)).2)
  b kk cs
  (fun i o hz ho tm σ β a w rest listed qb i1 i2 gD yA aD l1 l2 hrel tL B7=>by
   cases hz;have fj:∀j,j<m->listed.getD j false=true:=λj hj=>aD j (El j hj);obtain⟨fuel,t,hr,Ed⟩:=tL;have fS:∀j,(listed.setIfInBounds m true).getD j false=true↔listed.getD j false=true\/j=m:=by
    intro j;have xl:m<listed.size:=by omega
    simp only[au,bK];by_cases e:m=j
    ·subst e;simp[xl]
    ·simp[e,gV e]
   have Ej:∀j,(listed.setIfInBounds m true).getD j false=true↔j<=m:=λj=>by
    rw[fS];constructor
    ·rintro (h|h)
     ·rcases fZ m j with h2|h2
      ·rcases fZ j ops.size with h3|h3
       ·have:=gD _ _ (A3 j h2 h3) h;rw[yA]at this;cases this
       ·have:listed.size<=j:=by omega
        simp[au,this]at h
      ·exact h2
     ·omega
    ·intro h;exact(Nat.lt_or_eq_of_le h).imp (fj j) λe=>e
   have sT:¬(listed.getD m false=true):=by rw[yA];simp
   have et:tm=TM m:=by
    apply bZ;intro l;have h1:tm.getD l .undef=(pg m).getD l .undef:=ga.read hk.down C2 gD i1 sF sT aD (λj hj dL _=>AY j hj dL);rw[tT m (ae _)]at h1;have Ej:=(hl m (ae _)).1;rw[tT 0 (aj _)]at l1;by_cases bx:l<tm.length
    ·have aL:l<(TM m).length:=by omega
     rw[ax bx,ax aL];simp only[List.getD,ax bx,ax aL,bd]at h1;rw[h1]
    ·rw[bB (by omega),bB (by omega)]
   have es : σ=SS m:=by
    apply bZ;intro c;have : σ[c]? = (vq m)[c]?:=ga.read hk.down AA gD i2 sF sT aD (λj hj dL _=>AY j hj dL);rw[this,tS m (ae _)]
   subst et es;have Ek:ops[m]? = some ops[m]:=aE sF;have hE:mR P lo ops rest [m] ⟨TM m,SS m⟩ (λe st=>e=.normal/\(lo.n<=st.σ.length->iw P lo Q k ops (ops.toList.drop (m+1)) [] st.tm st.σ)) :=
    mR.call Ek e4a hop (e4.mono λr σ' pH=>mR.nil ⟨rfl,pH⟩)
   obtain⟨e,eG,β',a',w',⟨rfl,q⟩,r1,r2,r3,rd,r4⟩:=hE X base mb D β a w b kk cs (by have:=(hl m (ae _)).2;simp only;omega) B7 hrel;have r4:Steps P (lone (b.atR a (.inRegion ops (m :: rest):: kk)) cs w) (lone (b.atR a' (.inRegion ops rest :: kk)) cs w'):=r4;obtain⟨Cm,Cl,f1,f2,f3,f4⟩:=Gy _ _ _ _ (q r1);have Rx:(ops.toList.drop (m+1)).length=ops.size-(m+1):=by simp
   rw [Rx]at f4;have f4:aC P lo Q k .normal ⟨Cm (ops.size-(m+1)),Cl (ops.size-(m+1))⟩:=f4;have Mq:∀i o,m<i->ops[i]? = some o->pB P ops .no o (Cm (i-(m+1))) (Cl (i-(m+1))) (Cm (i-(m+1)+1)) (Cl (i-(m+1)+1)):=λi o od hi=>f3 (i-(m+1)) o (by rw[dZ,show m+1+(i-(m+1))=i by omega];simpa using hi);have xk:∀i,i<=ops.size-(m+1)->(Cm i).length=(Cm 0).length/\(Cl i).length=(Cl 0).length:=by
    intro i
    induction i with
    |zero=>intro _;exact⟨rfl,rfl⟩
    |succ i ih =>
     intro hi;have h5:=(Mq (i+(m+1)) ops[i+(m+1)] (by omega) (aE (by omega))).len;rw[show i+(m+1)-(m+1)=i by omega]at h5;have:=ih (by omega);omega
   have gW:=OO (P:=P) (lo:=lo) (ops:=ops) (fs:=[]) (n0:=(Cl 0).length) (N:=(Cl 0).length) (TM:=λi=>Cm (i-(m+1))) (SS:=λi=>Cl (i-(m+1))) (X:=X) (base:=base) (mb:=mb) (D:=D)
    (R:=λ_ _ _ _=>False) (λ_ _ h=>h) (z:=none) (dd:=λ_=>False) (sk:=λj=>j<=m) (λi0 yv=>by cases yv) (λj hj=>hj.elim)
    ⟨hk.down,hk.tmp,λi _ c hc=>by simp[dG,Fp.no]at hc,λi _ c _ j _ _ hc=>by simp[dG,Fp.no]at hc,λi _ c hc=>by simp[dG,Fp.no]at hc⟩ (by rw[f2];exact r1) (ae _)
    (fun i o hi=>by
     rcases fZ m i with h5|h5
     ·have:=Mq i o h5 hi;rw[<-show i+1-(m+1)=i-(m+1)+1 by omega]at this;exact .inl (.inl this)
     ·refine .inr ⟨.inr h5,?_,?_⟩
      ·simp only[show i+1-(m+1)=0 by omega,show i-(m+1)=0 by omega];cases o.dst with
       |none=>exact⟨.undef,rfl⟩
       |some d =>
        refine⟨(Cm 0).getD d .undef,?_⟩;simp only[put];by_cases hd:d<(Cm 0).length
        ·simp only[List.getD,ax hd,bd,List.set_getElem_self]
        ·rw[List.set_eq_of_length_le (en hd)]
      ·simp only[show i+1-(m+1)=0 by omega,show i-(m+1)=0 by omega])
    (λi hi=>(xk (i-(m+1)) (by omega)).1.trans (by simp only[Nat.zero_sub])) (λi hi=>(xk (i-(m+1)) (by omega)).2) b kk cs
    (λi o hz=>by cases hz) fuel t (listed.setIfInBounds m true) eG.tm eG.σ β' a' w' (by simpa using qb) Ed
    (λi j hb hj=>(Ej i).2 (by have:=(Ej j).1 hj;have:=hb.lt hk.down;omega))
    (λl=>⟨λ_=>by simp only[Nat.zero_sub,f1],λj hj Q7 _ _=>by simp only[show j+1-(m+1)=0 by have:=(Ej j).1 Q7;omega,f1]⟩)
    (λl=>⟨λ_=>by simp only[Nat.zero_sub,f2],λj hj Q7 _ _=>by simp only[show j+1-(m+1)=0 by have:=(Ej j).1 Q7;omega,f2]⟩)
    (by simp only[Nat.zero_sub,f1]) (by rw[f2]) (λi c _ _ hc=>by simp[dG,Fp.no]at hc) r2 (λj _ h=>h) (λj hj _=>(Ej j).2 hj)
   rw[<-hr]at gW;rcases gW with⟨_,nZ,a2,w2,s1,s2,s3⟩|⟨h5,_⟩
   ·refine⟨.normal,⟨Cm (ops.size-(m+1)),Cl (ops.size-(m+1))⟩,nZ,a2,w2,f4,?_,s1,r3.trans s2,r4.trans s3⟩;have:=(xk (ops.size-(m+1)) (ae _)).2;rw[f2]at this;simp only;omega
   ·exact absurd rfl h5)
  ops.size (w.tape w.drawn (.order b.fn id)) (Array.replicate ops.size false) (pg 0) (vq 0) β a { w with drawn:=w.drawn+1 } (by simp) (by simp[oq])
  (λi j _ hj=>by simp[au,de]at hj;split at hj<;>simp at hj)
  (by
   have:(λj=>(Array.replicate ops.size false).getD j false=true)=λ_=>False:=funext λj=>by simp[au,de];split<;>simp
   rw[this];exact ga.init)
  (by
   have:(λj=>(Array.replicate ops.size false).getD j false=true)=λ_=>False:=funext λj=>by simp[au,de];split<;>simp
   rw[this];exact ga.init)
  rfl (by rw[tS 0 (aj _)];exact(hl 0 (aj _)).2) (λi c hi _ hc=>h3.s.o_ c (by simp only;have:=(hk.Gd i hi c hc).1;omega)) hrel
  (λj hj=>by simp[au,de]at hj;split at hj<;>simp at hj) (λj h=>h.elim)
 rcases p8 with⟨hz,_⟩|⟨_,p8⟩
 ·cases hz
 ·obtain ⟨e,eG,β',a',w',g1,g2,g3,g4,g5⟩:=p8 h2;rw[tS 0 (aj _),e2]at g4;refine⟨e,eG,β',a',w',g1,g2,g3,?_,.of_steps (.one stepR_region_draw) ?_⟩
  ·exact⟨g4.os,g4.tape,g4.output,g4.size,λg o v hc hn=>g4.cell g o v hc λhm=>hn (BT.1 hm),λg hg hn=>g4.block g hg λo hm=>hn o (BT.1 hm),λg o hm=>(g4.jq g o hm).imp BT.1 (λh=>h),g4.env⟩
  ·have hs:Region.schedule (P.follows .mixedOrders) ops (w.tape w.drawn (.order b.fn id))=Region.linearise.go .any ops ops.size (w.tape w.drawn (.order b.fn id)) (Array.replicate ops.size false) []:=by
    simp only[Region.schedule,hm,dE,if_true];rfl
   rw[hs];exact g5
theorem aC.IU {k:List KI} {id:Nat} {tm:List ah} {σ:av} (fs:List Fp) (n0 N:Nat) (hm:P.follows .mixedOrders=true) (jB:rj ops fs n0 N=true) (h0 : σ.length=n0) (hN:n0<=N) (m:Nat) (sF:m<ops.size)
  (tC:((List.range ops.size).all λj=>decide (j<m)||(List.range j).all λi=>((uz [] ops.toList).getD j 0).testBit i)=true) (F0:((List.range ops.size).all λj=>decide (j<m)||(dG fs j).wr.isEmpty)=true)
  (h:iw P lo (λ_ st=>aC P lo Q (.ops ops (ops.toList.drop m):: k) .normal st) [] ops (ops.toList.take m) fs tm (cM N σ)) :
  aC P lo Q (.code (.region id ops true):: k) .normal ⟨tm,σ⟩:=by
 have hk:=Nx jB;obtain⟨TM,SS,e1,e2,e3,e4⟩:=Gy _ _ _ _ h;have hlen:(ops.toList.take m).length=m:=by simp;omega
 rw[hlen]at e4;have e4:aC P lo Q (.ops ops (ops.toList.drop m):: k) .normal ⟨TM m,SS m⟩:=e4;have tG:∀i j,m<=j->i<j->j<ops.size->ku ops i j:=λi j RA yw hj=>by
  have:=bu.1 tC j (cd.2 hj);rw[decide_eq_false (by omega:¬j<m),cD]at this;exact Pj (bu.1 this i (cd.2 yw))
 have R_:∀j,m<=j->j<ops.size->(dG fs j).wr=[]:=λj RA hj=>by
  have:=bu.1 F0 j (cd.2 hj);rw[decide_eq_false (by omega:¬j<m),cD]at this;exact List.isEmpty_iff.1 this
 have AY:∀j,j<ops.size->j≠m->ku ops m j\/ku ops j m:=λj hj dL=>by
  rcases fZ j m with h|h
  ·exact .inr (tG j m (ae _) h sF)
  ·exact .inl (tG m j h (by omega) hj)
 have C3:∀i o,i<m->ops[i]? = some o->pB P ops (dG fs i) o (TM i) (SS i) (TM (i+1)) (SS (i+1)):=λi o od hi=>e3 i o (by rw[fh,if_pos od];simpa using hi);have hl:∀i,i<=m->(TM i).length=(TM 0).length/\(SS i).length=N:=by
  intro i
  induction i with
  |zero=>intro _;exact⟨rfl,by rw[e2,Ln (by omega)]⟩
  |succ i ih =>
   intro hi;have:=(C3 i ops[i] (by omega) (aE (by omega))).len;have:=ih (by omega);omega
 let pg:Nat->List ah:=λi=>if i<=m then TM i else oZ ops m (TM m) (i-m)
 let vq:Nat->av:=λi=>if i<=m then SS i else SS m
 have tT:∀i,i<=m->pg i=TM i:=λi hi=>if_pos hi;have tS:∀i,i<=m->vq i=SS i:=λi hi=>if_pos hi;have tN:∀i,m<=i->(hi:i<ops.size)->pg (i+1)=put (pg i) ops[i].dst .undef:=λi od hi=>by
  have e1:pg (i+1)=oZ ops m (TM m) (i-m+1):=by simp only[pg];rw[if_neg (by omega),show i+1-m=i-m+1 by omega]
  have e2:pg i=oZ ops m (TM m) (i-m):=by
   by_cases h:i=m
   ·subst h;rw[tT i (ae _),dF];rfl
   ·simp only[pg];rw[if_neg (by omega)]
  rw[e1,e2,oZ,show m+(i-m)=i by omega,aE hi];rfl
 have Dw:∀i,m<=i->vq i=SS m:=λi od=>by
  by_cases h:i=m
  ·subst h;exact tS i (ae _)
  ·exact if_neg (by omega)
 have C2:∀i l,i<ops.size->¬(∃o,ops[i]? = some o/\o.dst=some l)->(pg (i+1)).getD l .undef=(pg i).getD l .undef:=by
  intro i l hi hn;have ho:ops[i]? = some ops[i]:=aE hi;have j_:∀v,(put (pg i) ops[i].dst v).getD l .undef=(pg i).getD l .undef:=by
   intro v;cases hd:ops[i].dst with
   |none=>rfl
   |some d =>
    have dL:d≠l:=λe=>hn ⟨ops[i],ho,by rw[hd,e]⟩;simp only[put,List.getD,b_ dL]
  by_cases od:i<m
  ·have h1:=C3 i ops[i] od ho;rw[tT (i+1) (by omega)];rw[tT i (by omega)]at j_ ⊢;rcases h1 with⟨_,g,_⟩|⟨_,r,σ1,_,_,g,_⟩<;>rw[g]<;>exact j_ _
  ·rw[tN i (by omega) hi];exact j_ _
 have AA:∀i c,i<ops.size->¬c∈(dG fs i).wr->(vq (i+1))[c]? = (vq i)[c]?:=by
  intro i c hi hn;have ho:ops[i]? = some ops[i]:=aE hi;by_cases od:i<m
  ·have h1:=C3 i ops[i] od ho;rw[tS (i+1) (by omega),tS i (by omega)];rcases h1 with⟨_,_,g⟩|⟨_,r,σ1,_,g2,_,g⟩
   ·rw[g]
   ·rw[g,yk (by rw[BK g2,dW,uj]),br,if_neg hn]
  ·rw[Dw (i+1) (by omega),Dw i (by omega)]
 intro X base mb D β a w b kk cs h1 h2 h3 _;simp only at h1;have hrel:Rel X base mb D ⟨pg 0,vq 0⟩ β a { w with drawn:=w.drawn+1 }:=by
  have:=OE (n:=w.drawn+1) h3;rw[tT 0 (aj _),tS 0 (aj _),e1,e2];exact⟨this.s.pad (by simp only;omega),this.n,λj hj=>by rw[Ko];exact this.t j hj,this.d⟩
 have p8:=OO (P:=P) (lo:=lo) (ops:=ops) (fs:=fs) (n0:=n0) (N:=N) (TM:=pg) (SS:=vq) (X:=X) (base:=base) (mb:=mb) (D:=D)
  (R:=λσ β w Gc=>mb<=w.heap.size->∃e eG β' a' w',aC P lo Q k e eG/\lo.n<=eG.σ.length/\Rel X base mb D eG β' a' w'/\Ext lo.n σ β w eG.σ β' w'/\BF P Gc b kk cs e a' w')
  (λhe hs f B7=>let ⟨e,eG,β',a',w',g1,g2,g3,g4,g5⟩:=f (dg B7 he.size);⟨e,eG,β',a',w',g1,g2,g3,he.trans g4,.of_steps hs g5⟩) (z:=some m) (dd:=λj=>m<=j/\j<ops.size) (sk:=λ_=>False)
  (λi0 yv=>by cases yv;exact⟨sF,ae _,sF⟩) (λj hj=>⟨m,rfl,(Nat.eq_or_lt_of_le hj.1).imp Eq.symm λh=>tG m j hj.1 h hj.2⟩) hk (by omega) hN
  (fun i o ho=>by
   by_cases od:i<m
   ·rw[tT i (by omega),tT (i+1) (by omega),tS i (by omega),tS (i+1) (by omega)];exact .inl (.inl (C3 i o od ho))
   ·have FC:i<ops.size:=(aQ.1 ho).1;have Ek:ops[i]=o:=by rw[aE FC]at ho;exact aS ho
    refine .inr ⟨.inl ⟨by omega,FC⟩,⟨.undef,?_⟩,?_⟩
    ·rw[tN i (by omega) FC,Ek]
    ·rw[Dw (i+1) (by omega),Dw i (by omega)])
  (λi hi=>by
   by_cases od:i<=m
   ·rw[tT i od,tT 0 (aj _)];exact(hl i od).1
   ·simp only[pg];rw[if_neg od,if_pos (aj _),OG];exact(hl m (ae _)).1)
  (λi hi=>by
   by_cases od:i<=m
   ·rw[tS i od];exact(hl i od).2
   ·simp only[vq];rw[if_neg od];exact(hl m (ae _)).2)
  b kk cs
  (fun i o hz ho tm σ β a w rest listed qb i1 i2 gD yA aD l1 l2 hrel tL B7=>by
   cases hz;have fj:∀j,j<m->listed.getD j false=true:=λj hj=>aD j (tG j m (ae _) hj sF);obtain⟨fuel,t,hr,Ed⟩:=tL;have fS:∀j,(listed.setIfInBounds m true).getD j false=true↔listed.getD j false=true\/j=m:=by
    intro j;have xl:m<listed.size:=by omega
    simp only[au,bK];by_cases e:m=j
    ·subst e;simp[xl]
    ·simp[e,gV e]
   rw[Ypi hk.down fuel (m+1) (ops.size-(m+1)) t _ (by omega) (by simpa using qb) (λj hj=>(fS j).2 ((fZ j m).imp (fj j) λh=>by omega)) (λj hj AV=>by
    rw[<-dB,fS];rintro(h|h)
    ·have:=gD _ _ (tG m j (by omega) (by omega) AV) h;rw[yA]at this;cases this
    ·omega) (λi j hi yw AV=>tG i j (by omega) yw AV) Ed]at hr
   subst hr;have sT:¬(listed.getD m false=true):=by rw[yA];simp
   have et:tm=TM m:=by
    apply bZ;intro l;have h1:tm.getD l .undef=(pg m).getD l .undef:=ga.read hk.down C2 gD i1 sF sT aD (λj hj dL _=>AY j hj dL);rw[tT m (ae _)]at h1;have Ej:=(hl m (ae _)).1;rw[tT 0 (aj _)]at l1;by_cases bx:l<tm.length
    ·have aL:l<(TM m).length:=by omega
     rw[ax bx,ax aL];simp only[List.getD,ax bx,ax aL,bd]at h1;rw[h1]
    ·rw[bB (by omega),bB (by omega)]
   have es : σ=SS m:=by
    apply bZ;intro c;have : σ[c]? = (vq m)[c]?:=ga.read hk.down AA gD i2 sF sT aD (λj hj dL _=>AY j hj dL);rw[this,tS m (ae _)]
   subst et es;have R0:DG ops (ops.toList.drop m):=⟨by simp,λj=>by simp;try (congr 1;omega)⟩
   have hR:=e4 R0;have xG:(ops.toList.drop m).length=ops.size-m:=by simp
   rw[xG,show ops.size-(ops.size-m)=m by omega,show ops.size-m=(ops.size-(m+1))+1 by omega,jg]at hR;obtain⟨e,eG,β',a',w',q,r1,r2,r3,rd,r4⟩:=hR X base mb D β a w b kk cs (by have:=(hl m (ae _)).2;simp only;omega) B7 hrel;refine⟨e,eG,β',a',w',q,r1,r2,r3,?_⟩;rw[bf]at r4;have r4:BF P (lone (b.atR a (.inRegion ops (m :: List.range' (m+1) (ops.size-(m+1))):: kk)) cs w) b (.inRegion ops [] :: kk) cs e a' w':=r4;cases e with
   |normal=>exact Steps.trans r4 (.one stepR_region_end)
   |exit id=>obtain⟨k',e1,e2⟩:=r4;exact⟨k',by rw[e1];rfl,e2⟩
   |goto l=>obtain⟨k',e1,e2⟩:=r4;exact⟨k',by rw[e1];rfl,e2⟩
   |ret=>exact r4
   |panic u=>exact r4)
  ops.size (w.tape w.drawn (.order b.fn id)) (Array.replicate ops.size false) (pg 0) (vq 0) β a { w with drawn:=w.drawn+1 } (by simp) (by simp[oq])
  (λi j _ hj=>by simp[au,de]at hj;split at hj<;>simp at hj)
  (by
   have:(λj=>(Array.replicate ops.size false).getD j false=true)=λ_=>False:=funext λj=>by simp[au,de];split<;>simp
   rw[this];exact ga.init)
  (by
   have:(λj=>(Array.replicate ops.size false).getD j false=true)=λ_=>False:=funext λj=>by simp[au,de];split<;>simp
   rw[this];exact ga.init)
  rfl (by rw[tS 0 (aj _)];exact(hl 0 (aj _)).2) (λi c hi _ hc=>h3.s.o_ c (by simp only;have:=(hk.Gd i hi c hc).1;omega)) hrel
  (λj hj=>by simp[au,de]at hj;split at hj<;>simp at hj) (λj h=>h.elim)
 rcases p8 with⟨hz,_⟩|⟨_,p8⟩
 ·cases hz
 ·obtain ⟨e,eG,β',a',w',g1,g2,g3,g4,g5⟩:=p8 h2;rw[tS 0 (aj _),e2]at g4;refine⟨e,eG,β',a',w',g1,g2,g3,?_,.of_steps (.one stepR_region_draw) ?_⟩
  ·exact⟨g4.os,g4.tape,g4.output,g4.size,λg o v hc hn=>g4.cell g o v hc λhm=>hn (BT.1 hm),λg hg hn=>g4.block g hg λo hm=>hn o (BT.1 hm),λg o hm=>(g4.jq g o hm).imp BT.1 (λh=>h),g4.env⟩
  ·have hs:Region.schedule (P.follows .mixedOrders) ops (w.tape w.drawn (.order b.fn id))=Region.linearise.go .any ops ops.size (w.tape w.drawn (.order b.fn id)) (Array.replicate ops.size false) []:=by
    simp only[Region.schedule,hm,dE,if_true];rfl
   rw[hs];exact g5
theorem aC.IQ {k:List KI} {id:Nat} {tm:List ah} {σ:av} (fs:List Fp) (n0 N:Nat) (hm:P.follows .mixedOrders=true) (jB:rj ops fs n0 N=true) (h0 : σ.length=n0) (hN:n0<=N) (m:Nat) (eM:ops.size=m+1)
  (tC:((List.range m).all λj=>((uz [] ops.toList).getD m 0).testBit j)=true) (R_:(dG fs m).wr=[])
  (h:iw P lo (λ_ st=>aC P lo Q (.ops ops (ops.toList.drop m):: k) .normal st) [] ops (ops.toList.take m) fs tm (cM N σ)) :
  aC P lo Q (.code (.region id ops true):: k) .normal ⟨tm,σ⟩:=by
 refine aC.IU fs n0 N hm jB h0 hN m (by omega) (bu.2 λj hj=>?_) (bu.2 λj hj=>?_) h
 ·have:=cd.1 hj;rw[cb,decide_eq_true_eq];rcases fZ j m with h|h
  ·exact .inl h
  ·obtain rfl:j=m:=by omega
   exact .inr tC
 ·have:=cd.1 hj;rw[cb,decide_eq_true_eq];rcases fZ j m with h|h
  ·exact .inl h
  ·obtain rfl:j=m:=by omega
   exact .inr (by rw[R_];rfl)
end
section
variable {P:Program}{lo:Ctx}{Q:cB->St->Prop}{k:List KI}{ops:Array Oper}{l:List Oper}{fs:List Fp}{tm:List ah}{σ m:av}
theorem Ad {d:Option Tmp} {g:FuncId} {first captured args args':List ah} {r:ah} {wr:List Nat} (bs:List Nat) (hc:az P g args' r) (hp:mD (among bs) m args' (first++args++captured)) (hl:bG 0 args')
  (hs:fG wr 0 (if bj r then m else fw (among bs) 0 m) m)
  (h:iw P lo Q k ops l fs (put tm d r) (ew wr 0 (if bj r then m else fw (among bs) 0 m) σ)):oN P lo Q k ops wr d l fs tm σ m (.fn g first captured) args :=
 ⟨r,_,ak.bm bs hc hp hl ⟨rfl,rfl⟩,hs,h⟩
end
theorem ak.Ap {P:Program} {F:Frame->List Frame->Sem Next->World->Value->World->Prop} {f f':ah} {args:List ah} {K K':ah->av->Prop} {Z σ:av} (ι:Nat->Nat) (wj:∀b b',b<Z.length->b'<Z.length->ι b = ι b'->b=b') (hb:∀b,b<Z.length->ι b < σ.length)
  (xV:∀b,b<Z.length->∃o,Z[b]? = some o/\σ[ι b]? = some (o.map (eo ι))) (hf:f.low Z.length) (pG:ez ι f=f') (ha:bG 0 args) (hs:bH Z.length Z)
  (h:dn P F f args Z K') (hk:∀r Z',K' r Z'->Z.length<=Z'.length/\bH Z'.length Z'/\r.low Z'.length/\K (ez (lX ι Z.length σ.length) r) (ix ι Z.length Z' σ)):dn P F f' args σ K:=by
 have:=ak.Ao (K:=K) ι wj hb xV hf (iD (aj _) ha) hs (h.mono hk)
 rwa [pG,bT ha]at this
theorem ak.Qp {P:Program}{F:Frame->List Frame->Sem Next->World->Value->World->Prop}{f:ah}{args args':List ah}{K:ah->av->Prop}{σ:av}(hp:mD (among []) σ args' args)(h:dn P F f args' σ K):dn P F f args σ K:=by
 intro X base β w vf vs h1 ou h2 h3 fr cs h4;have pG:=Cs (among []) σ;rw[eW]at pG;obtain⟨e1,e2⟩:=wA h1 pG args' hp;exact h X base β w vf vs h1 ou (by omega) (λk hk=>(e2 k hk).1 _ (h3 k (by omega))) fr cs h4
theorem ak.Dt {P : Program} {g : FuncId} {fn : Func} {c : Code} {σ : av} (hf : P.funcs[g]? = some fn) (hb : fn.body = some c) (fe : (fn.name == "runtime.NumGoroutine") = false)
  (h0:∀(a:Option Addr) (cap:Nat) (w:World),Calls P g #[.slice a 0 cap] w λe w'=>e=.returned (.tuple #[])/\w'=w)
  {K:ah->av->Prop} (hK:K (.dw []) σ):ak P (.fn g [] []) [.a8] σ K:=by
 refine ak.sh ?_;intro X base β w vs h1 h2 h3 fr cs B4
 have tF : ¬ fn.name = "runtime.NumGoroutine" := by simpa using fe
 obtain⟨x,rfl⟩:∃x,vs = #[x]:=by
  simp at h2;exact se.1 h2
 have y8:=h3 0 (by simp);simp only[aY,bf,aV]at y8;have hx:(#[x]:Array Value).getD 0 undef=x:=rfl;rw[hx]at y8;have xO:∀(w':World) (M':Nat->Nat->Prop),cn w' M' β (.tuple #[]) (.dw []):=λw' M'=>.dw rfl λk hk=>by simp at hk
 have iz:∀us,(callFunc g us).run P w=.ok (.enter g us) w:=λus=>by simp[callFunc,hf,tF,hb]
 obtain⟨a0,rfl⟩:∃a0,x=.slice a0 0 0:=by
  cases y8 with
  |a8 a=>exact⟨a,rfl⟩
 obtain⟨e,w',D3,⟨rfl,rfl⟩,hc,Ec,hl⟩:=h0 a0 0 w (fr :: cs);refine⟨_,σ,β,.tuple #[],w',hK,h1,xO _ _,Ext.refl _ _ _ _,ae _,Frame.enter P g _ .normal,fr :: cs,w',?_,Steps.trans hc (.one (step_leave_returned hl))⟩;simp only[stepG.apply,if_true,Sem.runT_eq,iz,GStep.bare_after,GStep.bare_go];split
 ·rename_i d s a k e;exact absurd e (B4 _ _ _ _ _)
 ·rfl
end Go.dq
namespace Go.Proofs
open Go Go.dq
theorem Uv (p more:List Int) (hp:p.length<=1000000) (hm:more.length<=1000000):az Tryz.prog 187 [.ps 1 (ints p),.ps 1 (ints more)] (.ps 1 (ints (p++more))):=by
 refine az.begin (rs:=[.tmp 4]) (m:=7) 1000 Tryz.func187 rfl rfl rfl (by decide) (by simp[go_sem,cY]) ?_;have uX:(ints more).length=more.length:=ja more;have RM:(ints p).length=p.length:=ja p;have yy:List.take more.length (ints more)=ints more:=aO (by omega);have A6:List.take p.length (ints p)=ints p:=aO (by omega);have AG:ints (p++more)=ints p++ints more:=by simp[ints]
 have hw:∀σ:av,mD (λ_=>true) σ (ints p++ints more) (ints p++ints more):=λσ=>bL _ _ _;by_cases h:p=[]
 ·subst h;simp only[go_sem];refine(cj.v Zun).mono ?_;rintro r σ' (⟨rfl,rfl⟩|⟨rfl,rfl⟩)
  ·refine aC.g ?_;by_cases h2:more.length=0
   ·obtain rfl:=dT.1 h2;simp only[go_sem,wy,aF];exact wy ▸ of_eq_true (Ysi [])
   ·simp only[go_sem,uX,h2,(by omega:more.length<=6000000000000),yy]
  ·refine aC.g ?_;simp only[go_sem,uX,yy];omega
 ·simp only[go_sem];refine(cj.v (Zwx p h (by omega)).1).mono ?_;rintro r σ' ⟨rfl,rfl⟩;refine aC.g ?_;simp only[go_sem,uX,RM,A6];refine⟨by omega,by rw[aA];omega,?_⟩;rw[aO (by rw[aA];omega),AG];exact bL _ _ _
def mL (L:List (List Int)):List ah:=L.map λp=>.ps 1 (ints p)
theorem y0 (L:List (List Int)):(mL L).length=L.length:=by simp[mL]
@[go_sem]theorem vX {n:Nat}(L:List (List Int)):bG n (mL L)=True:=eq_true (wx λp _=>cY p)
theorem Ts (L M:List (List Int)):mL (L++M)=mL L++mL M:=by simp[mL]
@[go_sem]theorem UN (L:List (List Int)):eE ⟨1,false,24,[.a8],.slice⟩ (mL L)=True:=eq_true (by
 refine⟨λx hx=>?_,by decide,by decide,rfl⟩;obtain⟨t,_,rfl⟩:=cN.1 hx;exact⟨rfl,rfl⟩)
mutual
def Tm.ib:Tm->List Int->List (List Int)
 |.mk _ ts,p=>p :: Tm.kQ ts p 0
def Tm.kQ:List Tm->List Int->Nat->List (List Int)
 |[],_,_=>[]
 |t :: ts,p,i=>t.ib (p++[(i:Int)])++Tm.kQ ts p (i+1)
end
mutual
theorem Ab:∀(t:Tm) (p:List Int),(t.ib p).length=t.size
 |.mk _ ts,p=>by simp only[Tm.ib,Tm.size,aq,N5 ts p 0];omega
theorem N5:∀(ts:List Tm) (p:List Int) (i:Nat),(Tm.kQ ts p i).length=Tm.bw ts
 |[],_,_=>rfl
 |t :: ts,p,i=>by simp only[Tm.kQ,Tm.bw,aA,Ab t,N5 ts]
end
@[go_sem] theorem Xai {π:Nat->Nat} {L:List (List Int)}:Option.map (eo π) (cX (mL L))=cX (mL L):=by
 cases h:mL L with
 |nil=>rfl
 |cons x l =>
  have hl:bG 0 (mL L):=of_eq_true (vX L);rw[BR,bD,xv,<-h,bT hl]
def pV (L:List (List Int)):av:=[some (.var [eR 2 1 (mL L)]),some (.var [.fn 186 [] [.ptr 0 0,.ptr 1 0]]),cX (mL L)]
def sx (L:List (List Int)):av:=[some (.var [eR 3 1 (mL L)]),some (.var [.fn 186 [] [.ptr 0 0,.ptr 1 0]]),none,cX (mL L)]
theorem TJ:∀(n:Nat) (t:Tm) (p:List Int) (L:List (List Int)),t.size<=n->p.length+t.size<=1000000->L.length+t.size<=1000000 ->
  ak Tryz.prog (.fn 186 [] [.ptr 0 0,.ptr 1 0]) [t.aH,.ps 1 (ints p)] (pV L) (λr σ'=>r=.dw []/\σ'=sx (L++t.ib p))
 |0,t,p,L,h,_,_=>by have:=n9 t;omega
 | n+1,t,p,L,hn,hp,hL=>by
  unfold pV;refine ak.begin (rs:=[]) (m:=25) 1000 Tryz.func186 rfl rfl rfl rfl rfl ?_;simp only[go_sem,cq];refine aC.draw [⟨none,[],[4]⟩,.no,.no,⟨some 4,[4],[]⟩,⟨some 5,[2,5],[]⟩,⟨none,[0],[]⟩] 4 6 mixed rfl rfl (by decide) ?_;simp only[go_sem,cM];refine jS (Uv p [] (by omega) (by simp)) ?_ (by simp[go_sem,cY]) ?_
  ·simp only[go_sem,wy]
  have h2:bW (pV L++[some (.var [.int .i64 t.head,.ps 2 (List.map Tm.aH t.args)]),some (.row [.ps 1 (ints (p++[]))] 0),none]) 2=cX (mL L):=by simp[pV,bW]
  have nz:=of_eq_true (UN [p++[]]);rw[show mL [p++[]]=[.ps 1 (ints (p++[]))] from rfl]at nz
  have pI:List.take 1 [ah.ps 1 (ints (p++[]))]=[.ps 1 (ints (p++[]))]:=rfl;simp only[pV,bq,aY]at h2;simp only[go_sem,qg h2,nz,y0,pI];refine⟨by omega,?_⟩;refine aC.g ?_;simp only[go_sem,bf];have eM:=n9 t;have gE:t.ib p=p :: Tm.kQ t.args p 0:=by cases t;rfl
  have nw:=mH t.args;refine aC.ep (ι:={q:Nat×List (List Int) // q.1<=t.args.length/\q.2≠[]/\q.2++Tm.kQ (t.args.drop q.1) p q.1=L++t.ib p/\q.2.length+Tm.bw (t.args.drop q.1)<=1000000}) 1000
   (λq=>dV 29 [(1,.ps 1 (ints p)),(3,.ptr 1 0),(14,.ps 2 (t.args.map Tm.aH)),(15,.int .i64 t.args.length),(16,.int .i64 q.1.1)]) (λq=>sx q.1.2) (λq=>t.args.length-q.1.1)
   ⟨(0,L++[p]),by simp only[dQ,gE];refine⟨by omega,by simp,by simp,by simp;omega⟩⟩ [(3,5),(5,3)] ?_ (λ_=>by simp[sx]) ?_
  ·refine eL rfl ?_;unfold sx;rw[Ts,qP (by simp[mL]),qQ (by simp[mL])];simp only[go_sem,bC,bT (bC _),y0,cY,bT (cY _)];have lw:bG 0 (mL (L++[p])):=of_eq_true (vX _);rw[Ts]at lw;rw[bT lw];exact⟨rfl,iD (by omega) lw⟩
  ·rintro ⟨⟨i,M⟩,hi,hM,aD,hlen⟩;simp only at hi hM aD hlen;have hMn:mL M≠[]:=by simp[mL,hM]
   by_cases bx:(i:Int)<t.args.length
   ·have aL:i<t.args.length:=by omega
    have hw:=W1' i (by omega)
    have hg:(t.args.map Tm.aH).getD i .undef=t.args[i].aH:=by simp[List.getD,aL]
    obtain⟨x,hx⟩:∃x,t.args[i]=x:=⟨_,rfl⟩;have hdr:t.args.drop i=x :: t.args.drop (i+1):=by rw[ai aL,hx]
    rw[hdr,Tm.kQ]at aD;rw[hdr,Tm.bw]at hlen;rw[hx]at hg;unfold sx;simp only[go_sem,bx,hg,ao,dO];refine⟨by omega,?_⟩;refine aC.IQ [⟨none,[],[5]⟩,⟨none,[],[5]⟩,⟨none,[],[5]⟩,.no,⟨some 5,[5],[]⟩,⟨none,[5],[]⟩] 5 6 mixed (by decide) rfl (by decide) 6 rfl (by decide) rfl ?_;simp only[go_sem,cM];have Eb:bj (.ps 1 (ints (p++[(i:Int)])))=false:=by
     cases h:ints (p++[(i:Int)]) with
     |nil=>simp[ints]at h
     |cons a l=>rfl
    refine Ad [5] (Uv p [(i:Int)] (by omega) (by simp)) ?_ (by simp[go_sem,cY]) (by simp[Eb,fw,iW,among,fG]) ?_
    ·simp only[go_sem,ints,aI,aR]
    simp only[Eb,aX,if_false,fw,iW,among,dI,fD,fX,Nat.reduceAdd,Nat.reduceBEq,if_true,aq,aF,Nat.zero_max];simp only[go_sem];refine aC.g ?_;simp only[go_sem];refine aC.g ?_;simp only[go_sem];rw[<-cq x];have aqq:x.size+Tm.bw (t.args.drop (i+1))<=Tm.bw t.args:=by
     have:=Gr (t.args.take i) (t.args.drop i);rw[List.take_append_drop,hdr,Tm.bw]at this;omega
    have uJ:x.size<=n:=by omega
    have hI:∀b,b<3->b=0\/b=1\/b=2:=λb hb=>by omega
    refine ak.Ap (Z:=pV M) (f:=.fn 186 [] [.ptr 0 0,.ptr 1 0]) (λb=>if b=2 then 3 else b) (λb b' h1 h2 e=>?_) (λb hb=>?_) (λb hb=>?_) (by simp[pV,go_sem]) rfl (by simp[go_sem,cV,cY]) (by simp[pV,go_sem])
     (TJ n x (p++[(i:Int)]) M uJ (by simp only[aA,aq,aF];omega) (by omega)) ?_
    ·rcases hI b h1 with rfl|rfl|rfl<;>rcases hI b' h2 with rfl|rfl|rfl<;>first|rfl|exact absurd e (by decide)
    ·rcases hI b hb with rfl|rfl|rfl<;>simp
    ·rcases hI b hb with rfl|rfl|rfl
     ·exact⟨_,rfl,by simp[go_sem]⟩
     ·exact⟨_,rfl,rfl⟩
     ·exact⟨_,rfl,by simp[go_sem]⟩
    ·rintro r Z' ⟨rfl,rfl⟩;refine⟨by simp[pV,sx],by simp[sx,go_sem],by simp[go_sem],?_⟩;simp only[go_sem,pV,sx,ix,eQ,lX,aI,aR];refine aC.g ?_;simp only[go_sem];refine⟨⟨(i+1,M++x.ib (p++[(i:Int)])),by simp only;omega,by simp[hM],by rw[<-aD,cg],by simp only[aA,Ab];omega⟩,[(3,6),(6,3)],eL rfl ?_,by simp only;omega⟩;simp only[go_sem,hw,bC,bT (bC _),cY,bT (cY _)]
     trace_state
   ·have dm:i=t.args.length:=by omega
    subst dm;rw[aJ,Tm.kQ,bf]at aD;unfold sx;simp only[go_sem,bx];refine aC.g ?_;simp only[go_sem];rw[gy,<-aD];exact⟨_,gL _,by simp,by simp[go_sem],by simp[go_sem],rfl,rfl⟩
theorem UO (t:Tm) (h:t.size<=1000000):az Tryz.prog 166 [t.aH] (.ps 1 (mL (t.ib []))):=by
 refine az.iq (rs:=[.tmp 2]) (m:=9) Tryz.func166 rfl rfl rfl (by decide) (of_eq_true (vX _)) ?_;refine aC.pad 1 (ae _) (by simp[go_sem,cV]) trivial ?_;refine aC.g ?_;simp only[go_sem,cq,aY,List.replicate_one];refine ak.Qp (args':=[t.aH,.ps 1 (ints [])]) ?_ ?_
 ·rw[cq];simp only[go_sem,wy]
 have hI:∀b,b<3->b=0\/b=1\/b=2:=λb hb=>by omega
 refine ak.Ap (Z:=pV []) (f:=.fn 186 [] [.ptr 0 0,.ptr 1 0]) (λb=>if b=2 then 0 else b+2) (λb b' h1 h2 e=>?_) (λb hb=>?_) (λb hb=>?_) (by simp[pV,go_sem]) rfl (by simp[go_sem,cV,cY]) (by simp[pV,go_sem])
  (TJ _ t [] [] (ae _) (by simpa using h) (by simpa using h)) ?_
 ·rcases hI b h1 with rfl|rfl|rfl<;>rcases hI b' h2 with rfl|rfl|rfl<;>first|rfl|exact absurd e (by decide)
 ·rcases hI b hb with rfl|rfl|rfl<;>simp
 ·rcases hI b hb with rfl|rfl|rfl<;>exact⟨_,rfl,rfl⟩
 rintro r Z' ⟨rfl,rfl⟩;refine⟨by simp[pV,sx],by simp[sx,go_sem],by simp[go_sem],?_⟩;simp only[go_sem,pV,sx,ix,eQ,lX,aI,aR];refine aC.g ?_;simp only[go_sem];have dL:mL (t.ib [])≠[]:=by cases t;simp[mL,Tm.ib]
 rw[vY dL,vA dL];simp only[go_sem];rw[aO (ae _)];exact bL _ _ _
def Tm.mr:Tm->List Int->Option Tm
 |t,[]=>some t
 |t,n :: p=>if n<0 then none else if h:n.toNat<t.args.length then (t.args[n.toNat]).mr p else none
def gQ:Tm:=.mk 0 []
theorem M8 (t:Tm) (p:List Int) (hp:p.length<=1000000) (ht:t.size<=1000000000):az Tryz.prog 167 [t.aH,.ps 1 (ints p)] (.dw [((t.mr p).getD gQ).aH,.bool (t.mr p).isSome]):=by
 refine az.begin (rs:=[.cell 4 70,.tmp 5]) (m:=29) 1000 Tryz.func167 rfl rfl rfl (by decide) (by simp[go_sem,cV]) ?_;simp only[go_sem,dO,ja];refine aC.cA (ι:={q:Nat×Tm // q.1<=p.length/\q.2.mr (p.drop q.1)=t.mr p/\q.2.size<=t.size}) 1000 (λq=>dV 31 [(2,.ptr 0 0),(4,.ptr 1 0),(5,.bool false),(8,.ps 1 (ints p)),(9,.int .i64 p.length),(10,.int .i64 q.1.1)])
  (λq=>[some (.var [.int .i64 q.1.2.head,.ps 2 (q.1.2.args.map Tm.aH)]),some (.var [.int .i64 0,.a8])]) (λq=>p.length-q.1.1) ⟨(0,t),by simp⟩ ?_ (λ_=>aj _) ?_
 ·simp only[go_sem,bC,cY]
 ·rintro ⟨⟨i,u⟩,hi,kU,qU⟩;simp only at hi kU qU;have nw:=mH u.args;have Hv:=n9 u;by_cases bx:(i:Int)<p.length
  ·have aL:i<p.length:=by omega
   have hw:=W1' i (by omega)
   rw[ai aL,Tm.mr]at kU;obtain⟨n,hn⟩:∃n,p[i]=n:=⟨_,rfl⟩;have hg:=vu aL;rw[hn]at kU hg;by_cases h0:n<0
   ·rw[if_pos h0]at kU;simp only[go_sem,bx,hg,ja,h0];refine⟨by omega,?_⟩;refine aC.g ?_;simp only[go_sem,<-kU,dD,oH,cq,gQ,Tm.head,Tm.args,aR]
   ·rw [if_neg h0]at kU;by_cases h1:n.toNat<u.args.length
    ·rw[dif_pos h1]at kU;have h2:¬(u.args.length:Int)<=n:=by omega
     have zb:(u.args.map Tm.aH).getD n.toNat .undef=(u.args[n.toNat]).aH:=jT h1;simp only[go_sem,bx,hg,ja,h0,h2,hw,zb,dO];refine⟨by omega,⟨by omega,by omega⟩,⟨(i+1,u.args[n.toNat]),by simp only;omega,kU,?_⟩,?_⟩
     ·have a1:=zC u.args n.toNat h1;have a2:=yj u.args (n.toNat+1);simp only;omega
     ·refine⟨⟨rfl,rfl,cY _,bC _⟩,by simp only;omega⟩
    ·rw[dif_neg h1]at kU;have h2:(u.args.length:Int)<=n:=by omega
     simp only[go_sem,bx,hg,ja,h0,h2];refine⟨by omega,?_⟩;refine aC.g ?_;simp only[go_sem,<-kU,dD,oH,cq,gQ,Tm.head,Tm.args,aR]
  ·have dm:i=p.length:=by omega
   subst dm;rw[aJ,Tm.mr]at kU;simp only[go_sem,bx];refine aC.g ?_;simp only[go_sem,<-kU];rw[cq];exact bL _ _ _
def Tm.jy:Tm->List Int->Tm->Tm
 |_,[],u=>u
 |t,n :: p,u=>.mk t.head (t.args.set n.toNat ((t.args.getD n.toNat gQ).jy p u))
theorem P8:gQ.head=0:=rfl
theorem PY:gQ.args=[]:=rfl
theorem DQ {σ τ:av}{b:Nat}(h:b < σ.length):bW (σ++τ) b=bW σ b:=by simp only[bW,cK h]
theorem yl {σ:av}{b c:Nat}{x:Option bS}(h:c≠b):bW (σ.set c x) b=bW σ b:=by simp only[bW,b_ h]
theorem DN {σ:av}{b:Nat}{x:Option bS}(h:b < σ.length):bW (σ.set b x) b=x:=by simp[bW,h]
theorem G5 {σ:av}{b:Nat}{x:bS}(h:b < σ.length):cJ σ b x = σ.set b (some x):=if_pos h
theorem HS {n:Nat}{x:Option bS}(hx:ke n x):∀ {σ:av} (b:Nat),bH n σ->bH n (σ.set b x)
 |[],_,_=>trivial
 |a :: σ,0,h=>⟨hx,h.2⟩
 |a :: σ,b+1,h=>⟨h.1,HS hx b h.2⟩
theorem Ud {S:av} {w':Tm} {x:ah} (hx:pT (λ_=>true) S w'.aH x):∀(l:List Tm) (j:Nat),mD (λ_=>true) S ((l.set j w').map Tm.aH) ((l.map Tm.aH).set j x)
 |[],_=>by simp[mD]
 |a :: l,0=>by
  simp only[cw,aI,yW];exact⟨hx,bL _ _ _⟩
 |a :: l,j+1=>by
  simp only[cu,aI,yW];exact⟨nH _ _ _,Ud hx l j⟩
theorem SX {S:av} {w':Tm} {x:ah} (hx:pT (λ_=>true) S w'.aH x) (h:Int) (l:List Tm) (j b:Nat) (hg:bW S b=some (.row ((l.map Tm.aH).set j x) 0)) :
  pT (λ_=>true) S (Tm.mk h (l.set j w')).aH (.agg [.int .i64 h,.os b 0 l.length 2]):=by
 rw[cq];simp only[go_sem,Tm.head,Tm.args,hg,bg];rw[aO (by simp)];exact Ud hx l j
theorem W5 {n:Nat}{x:ah}:∀ {l:List ah},bG n l->x.low n->∀i,bG n (l.set i x)
 |[],_,_,_=>trivial
 |a :: l,h,hx,0=>⟨hx,h.2⟩
 |a :: l,h,hx,i+1=>⟨h.1,W5 h.2 hx i⟩
structure DF where
 k:Nat
 w:Tm
 a:ah
 σ:av
def EG (t:Tm) (p:List Int) (u:Tm) (q:DF):Prop :=
 q.k<=p.length/\(q.w.mr (p.drop q.k)).isSome=true/\q.w.size<=t.size/\5<=q.σ.length/\bH q.σ.length q.σ/\q.a.low q.σ.length/\bW q.σ 1=some (.var [.int .i64 u.head,.ps 2 (u.args.map Tm.aH)])/\bW q.σ 2=some (.var [.int .i64 0,.a8]) /\
 ((q.k=0/\q.a=.ptr 4 0/\q.w=t/\bW q.σ 4=some (.var [.int .i64 t.head,.ps 2 (t.args.map Tm.aH)])) \/
  ∃(c i:Nat) (es:List ah) (c0 c1:ah) (F:Tm->Tm),q.a=.rp c i 0/\5<=c/\c<q.σ.length/\bW q.σ c=some (.row es 0)/\i<es.length/\es.getD i .undef=q.w.aH/\bW q.σ 4=some (.var [c0,c1])/\c0.dy=true/\c1.dy=true /\
   F (q.w.jy (p.drop q.k) u)=t.jy p u /\
   ∀(S:av) (w':Tm) (x:ah),(∀b,5<=b->b<q.σ.length->b≠c->bW S b=bW q.σ b)->bW S c=some (.row (es.set i x) 0)->pT (λ_=>true) S w'.aH x->pT (λ_=>true) S (F w').aH (.agg [c0,c1]))
theorem Ytz (t:Tm) (p:List Int) (u v:Tm) (hp:p.length<=1000000) (ht:t.size<=1000000) (h:t.mr p=some v):az Tryz.prog 173 [t.aH,.ps 1 (ints p),u.aH] (.dw [(t.jy p u).aH,.int .i64 0]):=by
 refine az.begin (rs:=[.cell 6 70,.tmp 7]) (m:=46) 1000 Tryz.func173 rfl rfl rfl (by decide) (by simp[go_sem,cV]) ?_;simp only[go_sem,dO];refine ak.bm [] (M8 t p hp (by omega)) (by(try simp only[cq]);exact bL _ _ _) (by simp[go_sem,cV,bC,cY]) ?_;rw[eW];simp only[ite_self];refine aC.g ?_
 rw[h];simp only[go_sem,bd,oI,cq,ja];refine aC.cA (ι:={q:DF // EG t p u q}) 1000 (λq=>dV 49 [(5,.ptr 1 0),(6,.ptr 2 0),(7,.int .i64 0),(10,.ptr 4 0),(11,q.1.a),(24,.ps 1 (ints p)),(25,.int .i64 p.length),(26,.int .i64 q.1.k)])
  (λq=>q.1.σ) (λq=>p.length-q.1.k) ⟨⟨0,t,.ptr 4 0,[none,some (.var [.int .i64 u.head,.ps 2 (u.args.map Tm.aH)]),some (.var [.int .i64 0,.a8]),none,some (.var [.int .i64 t.head,.ps 2 (t.args.map Tm.aH)])]⟩,?_⟩ ?_ (λ_=>aj _) ?_
 ·refine⟨aj _,by simp[h],ae _,by simp,by simp[go_sem,bC],by simp[go_sem],rfl,rfl,.inl ⟨rfl,rfl,rfl,rfl⟩⟩
 ·simp only[go_sem,cY,bC]
 ·rintro ⟨⟨k,w,a,σ⟩,hk,kU,eM,u0,iG,qi,uE,xJ,hq⟩;simp only at hk kU eM u0 iG qi uE xJ hq;have nw:=mH w.args;have rz:c_ w.aH=true:=by rw[cq];rfl
  have yJ:∀cs,jl true cs=.agg cs:=λ_=>rfl;have yz:=n9 w;by_cases bx:(k:Int)<p.length
  ·have aL:k<p.length:=by omega
   have hw:=W1' k (by omega)
   rw[ai aL,Tm.mr]at kU;obtain⟨n,hn⟩:∃n,p[k]=n:=⟨_,rfl⟩;have hg:=vu aL;rw[hn]at kU hg;have h0:¬n<0:=λh0=>by rw[if_pos h0]at kU;cases kU
   rw[if_neg h0]at kU;have h1:n.toNat<w.args.length:=Decidable.by_contra λh1=>by rw[dif_neg h1]at kU;cases kU
   rw[dif_pos h1]at kU;have dL:w.args≠[]:=by intro e;rw[e]at h1;simp at h1
   have Em:w.jy (p.drop k) u=.mk w.head (w.args.set n.toNat ((w.args[n.toNat]).jy (p.drop (k+1)) u)):=by
    rw[ai aL,hn,Tm.jy];simp[List.getD,h1]
   rcases hq with⟨rfl,rfl,rfl,B5⟩|⟨c,i,es,c0,c1,F,rfl,hc5,gM,zb,Hm,kp,B5,yv,Mt,hF,A7⟩
   ·have zi:(0:Int)<p.length:=by simpa using bx
    simp only[go_sem,zi,hg,ja,B5];refine ak.vN [] (HU w.args dL (by omega)) (bL _ _ _) (by simp[go_sem,bC]) ?_;rw[eW];simp only[Cx,CA,CI,xv,CM,up,bT (bC _)];obtain⟨jO,j3⟩:∃jO,σ++[none,some (bS.row (w.args.map Tm.aH) 0)] = jO:=⟨_,rfl⟩;have xk : jO.length = σ.length+2:=by rw[<-j3];simp
    have Fx:bW jO 4=some (.var [.int .i64 w.head,.ps 2 (w.args.map Tm.aH)]):=by rw[<-j3,DQ (by omega)];exact B5
    have Fh : 4 < jO.length:=by omega
    have sD:bH jO.length jO:=by
     rw[xk,<-j3];exact qO (ph (by omega) iG) (by simp[go_sem,bC])
    rw[j3];refine aC.g ?_;simp only[go_sem,Fx,G5 Fh,DN Fh];refine⟨⟨by omega,by omega⟩,⟨⟨1,w.args[n.toNat],.rp (1 + σ.length) n.toNat 0,_⟩,?_⟩,⟨⟨.inl rfl,rfl⟩,gL _,?_,?_⟩,by simp only;omega⟩
    ·have a1:=zC w.args n.toNat h1;have a2:=yj w.args (n.toNat+1);refine⟨by simp only;omega,kU,by simp only;omega,by simp only[bg];omega,?_,?_,?_,?_,.inr ⟨1 + σ.length,n.toNat,w.args.map Tm.aH,_,_,λw'=>.mk w.head (w.args.set n.toNat w'),rfl,by omega,by simp only[bg];omega,?_,by simpa using h1,jT h1,DN Fh,rfl,rfl,Em.symm,?_⟩⟩
     ·simp only[bg];exact HS (by simp[ke,go_sem];omega) 4 sD
     ·simp[go_sem];omega
     ·simp only;rw[yl (by decide),<-j3,DQ (by omega)];exact uE
     ·simp only;rw[yl (by decide),<-j3,DQ (by omega)];exact xJ
     ·simp only;rw[yl (by omega),<-j3,Nat.add_comm];simp[bW]
     ·intro S w' x _ hS hx;exact SX hx _ _ _ _ hS
    ·simp only[bg];exact⟨by omega,by omega,by omega,by simp[go_sem];omega,cY _⟩
    ·simp only[bg];exact HS (by simp[ke,go_sem];omega) 4 sD
   ·simp only[go_sem,bx,hg,ja,zb,Hm,kp,dO];refine⟨by omega,?_⟩;refine ak.vN [] (HU w.args dL (by omega)) (bL _ _ _) (by simp[go_sem,bC]) ?_;rw[eW];simp only[Cx,CA,CI,xv,CM,up,bT (bC _)];obtain⟨jO,j3⟩:∃jO,σ++[none,some (bS.row (w.args.map Tm.aH) 0)] = jO:=⟨_,rfl⟩;have xk : jO.length = σ.length+2:=by rw[<-j3];simp
    have Fy:bW jO c=some (.row es 0):=by rw[<-j3,DQ gM];exact zb
    have Fh:c < jO.length:=by omega
    have sD:bH jO.length jO:=by
     rw[xk,<-j3];exact qO (ph (by omega) iG) (by simp[go_sem,bC])
    have xM:∀fz,ke jO.length (some (.row (es.set i (.agg [.int .i64 w.head,.os (1 + σ.length) 0 w.args.length 2])) fz)):=λfz=>by
     have Jh:bG jO.length es:=sq sD c _ (la Fy);exact W5 Jh (by simp[go_sem];omega) i
    have Jh:bG jO.length es:=sq sD c _ (la Fy);have apS:i<(es.set i (.agg [.int .i64 w.head,.os (1 + σ.length) 0 w.args.length 2])).length:=by simpa using Hm
    have fS:(es.set i (ah.agg [.int .i64 w.head,.os (1 + σ.length) 0 w.args.length 2])).getD i .undef=.agg [.int .i64 w.head,.os (1 + σ.length) 0 w.args.length 2]:=by simp[List.getD,Hm]
    rw[j3];refine aC.g ?_;simp only[go_sem,Fy,G5 Fh,DN Fh,Hm,kp,dO,rz,yJ,bg,fS];refine⟨by omega,⟨by omega,by omega⟩,⟨⟨k+1,w.args[n.toNat],.rp (1 + σ.length) n.toNat 0,_⟩,?_⟩,⟨⟨.inl rfl,by rw[hw]⟩,gL _,?_,?_⟩,by simp only;omega⟩
    ·have a1:=zC w.args n.toNat h1;have a2:=yj w.args (n.toNat+1);refine⟨by simp only;omega,kU,by simp only;omega,by simp only[bg];omega,?_,?_,?_,?_,.inr ⟨1 + σ.length,n.toNat,w.args.map Tm.aH,c0,c1,λw'=>F (.mk w.head (w.args.set n.toNat w')),rfl,by omega,by simp only[bg];omega,?_,by simpa using h1,jT h1,?_,yv,Mt,by simp only;rw[<-hF,Em],?_⟩⟩
     ·simp only[bg];exact HS (xM 0) c sD
     ·simp[go_sem];omega
     ·simp only;rw[yl (by omega),<-j3,DQ (by omega)];exact uE
     ·simp only;rw[yl (by omega),<-j3,DQ (by omega)];exact xJ
     ·simp only;rw[yl (by omega),<-j3,Nat.add_comm];simp[bW]
     ·simp only;rw[yl (by omega),<-j3,DQ (by omega)];exact B5
     ·intro S w' x Hh hS hx;refine A7 S _ (.agg [.int .i64 w.head,.os (1 + σ.length) 0 w.args.length 2]) (λb h5 hb dL=>?_) ?_ (SX hx _ _ _ _ hS)
      ·rw[Hh b h5 (by simp only[bg];omega) (by omega)];simp only;rw[yl (by omega),<-j3,DQ hb]
      ·rw[Hh c hc5 (by simp only[bg];omega) (by omega)];simp only;rw[DN Fh]
    ·simp only[bg];exact⟨by omega,by omega,by omega,by simp[go_sem];omega,cY _⟩
    ·simp only[bg];exact HS (xM 0) c sD
  ·have dm:k=p.length:=by omega
   subst dm;rw[aJ]at hq;rcases hq with⟨h0,rfl,rfl,B5⟩|⟨c,i,es,c0,c1,F,rfl,hc5,gM,zb,Hm,kp,B5,yv,Mt,hF,A7⟩
   ·simp only[go_sem,bx];refine aC.g ?_;have ZS:=CG B5;have ZQ:=CG xJ;have Rh:bW (σ.set 4 (some (bS.var [.int .i64 u.head,.ps 2 (u.args.map Tm.aH)]))) 2=some (.var [.int .i64 0,.a8]):=by rw[yl (by decide)];exact xJ
    simp only[go_sem,uE,xJ,B5,G5 ZS,DN ZS,Rh];rw[G5 (by simpa using ZQ),DN (by simpa using ZQ)];have RM:p=[]:=bn h0;subst RM;rw[Tm.jy];simp only[go_sem]
   ·simp only[go_sem,bx];refine aC.g ?_;have Rg:∀X,bW (σ.set c X) 2=some (.var [.int .i64 0,.a8]):=λX=>by rw[yl (by omega)];exact xJ
    have Fx:∀X,bW (σ.set c X) 4=some (.var [c0,c1]):=λX=>by rw[yl (by omega)];exact B5
    simp only[go_sem,uE,xJ,B5,zb,Hm,kp,dO,rz,yJ,G5 gM,Rg,Fx,yv,Mt];rw[G5 (by simp only[bg];omega),DN (by simp only[bg];omega)];have gW:pT (λ_=>true) ((σ.set c (some (bS.row (es.set i u.aH) 0))).set 2 (some (bS.var [c0,c1]))) (t.jy p u).aH (.agg [c0,c1]):=by
     rw[<-hF,Tm.jy];refine A7 _ u _ (λb h5 hb dL=>?_) ?_ (nH _ _ _)
     ·rw[yl (by omega),yl (by omega)]
     ·rw[yl (by omega),DN gM]
    rw[cq u,cq (t.jy p u)]at gW;simp only[go_sem]at gW;simp only[go_sem,yv,Mt];exact⟨by omega,gW⟩
structure Bd where
 v:Int
 t:Tm
def Bd.aH (b:Bd):ah:=.agg [.int .i64 b.v,.int .i64 b.t.head,.ps 2 (b.t.args.map Tm.aH)]
def dp (l:List Bd):List ah:=l.map Bd.aH
theorem q_ (l:List Bd):(dp l).length=l.length:=by simp[dp]
theorem Yxa {n:Nat}(b:Bd):b.aH.low n:=⟨trivial,trivial,bC _,trivial⟩
@[go_sem]theorem nq {n:Nat}(l:List Bd):bG n (dp l)=True:=eq_true (wx λb _=>Yxa b)
theorem LY {l:List Bd}{i:Nat}(h:i<l.length):(dp l).getD i .undef=l[i].aH:=jT h
theorem Cw (b:Bd):b.aH.cells=[.int .i64 b.v,.int .i64 b.t.head,.ps 2 (b.t.args.map Tm.aH)]:=rfl
def ki:Int->List Bd->Int
 |_,[]=>0
 |m,b :: l=>if b.v<=m\/255<b.v\/b.t.check≠0\/b.t.head = -1-b.v then 1 else ki b.v l
theorem Yf8 (bs:List Bd) (hl:bs.length<1000000) (hb:∀b∈bs,b.t.size<99999999):az Tryz.prog 189 [.ps 3 (dp bs)] (.int .i64 (ki (-1) bs)):=by
 refine az.begin (rs:=[.tmp 2]) (m:=38) 1000 Tryz.func189 rfl rfl rfl (by decide) trivial ?_;simp only[go_sem,q_];refine aC.cA (ι:={q:Nat×Int // q.1<=bs.length/\ki q.2 (bs.drop q.1)=ki (-1) bs/\-1<=q.2}) 1000 (λq=>dV 39 [(2,.int .i64 0),(3,.int .i64 q.1.2),(6,.ps 3 (dp bs)),(7,.int .i64 bs.length),(8,.int .i64 q.1.1)])
  (λ_=>[]) (λq=>bs.length-q.1.1) ⟨(0, -1),by simp⟩ ?_ (λ_=>aj _) ?_
 ·simp only[go_sem]
 ·rintro ⟨⟨i,m⟩,hi,aD,hm⟩;simp only at hi aD hm;by_cases bx:(i:Int)<bs.length
  ·have aL:i<bs.length:=by omega
   have hw:=W1' i (by omega)
   rw[ai aL,ki]at aD;have j0:=hb _ (ay aL);have hg:=LY aL;obtain⟨b,I6⟩:∃b,bs[i]=b:=⟨_,rfl⟩;rw[I6]at aD j0 hg;by_cases h1:b.v<=m
   ·rw[if_pos (.inl h1)]at aD;simp only[go_sem,bx,q_,hg,Cw,h1];refine⟨by omega,?_⟩;refine aC.g ?_;simp only[go_sem,<-aD]
   ·by_cases h2 : 255<b.v
    ·rw[if_pos (.inr (.inl h2))]at aD;simp only[go_sem,bx,q_,hg,Cw,h1,h2];refine⟨by omega,?_⟩;refine aC.g ?_;simp only[go_sem,<-aD]
    ·have p7:=EL b.t (by omega);simp only[go_sem,bx,q_,hg,Cw,h1,h2];refine⟨by omega,?_⟩;refine ak.bm [] (p7) (by(try simp only[cq]);exact bL _ _ _) (by simp[go_sem,cV,bC]) ?_;simp only[bj,bA,bz,if_true];refine aC.g ?_
     by_cases h3:b.t.check=0
     ·have lE:IntKind.i64.wrap (-1-b.v) = -1-b.v:=dt (by omega);by_cases h4:b.t.head = -1-b.v
      ·rw[if_pos (.inr (.inr (.inr h4)))]at aD;simp only[go_sem,h3,lE,h4];refine aC.g ?_;simp only[go_sem,<-aD]
      ·rw[if_neg (by simp[h1,h2,h3,h4])]at aD;simp only[go_sem,h3,lE,h4,hw];refine⟨⟨(i+1,b.v),by simp only;omega,aD,by simp only;omega⟩,⟨rfl,rfl⟩,by simp only;omega⟩
     ·rw[if_pos (.inr (.inr (.inl h3)))]at aD;simp only[go_sem,h3];refine aC.g ?_;simp only[go_sem,<-aD]
  ·have dm:i=bs.length:=by omega
   subst dm;rw[aJ,ki]at aD;simp only[go_sem,bx];refine aC.g ?_;simp only[go_sem,<-aD]
theorem T5 (t:Tm)(eM:t.size<99999999):az Tryz.prog 190 [t.aH] (if t.check=0 then .dw [t.aH,.int .i64 0] else .dw [gQ.aH,.int .i64 t.check]):=by
 refine az.begin (rs:=[.cell 2 70,.tmp 3]) (m:=11) 1000 Tryz.func190 rfl rfl rfl (by decide) (by split<;>simp[go_sem,cV]) ?_;have p7:=EL t (by omega);simp only[go_sem,dO];refine ak.bm [] (p7) (by(try simp only[cq]);exact bL _ _ _) (by simp[go_sem,cV,bC]) ?_;simp only[bj,bA,bz,if_true];refine aC.g ?_
 by_cases h:t.check=0
 ·rw[if_pos h];simp only[go_sem,h,cq]
 ·rw[if_neg h];simp only[go_sem,h,cq,P8,PY,aR]
def gA (bs:List Bd):List ah:=bs.map λb=>.int .i64 b.v
def gZ (bs:List Bd):List ah:=bs.map λb=>b.t.aH
def r8 (bs:List Bd)(t:Tm):Tm:=((bs.find? λb=>b.v == -1-t.head).map Bd.t).getD t
theorem BJ (bs:List Bd)(v:Int):(gA bs).all (sameKind (.int .i64 v))=true:=by
 simp[gA,sameKind]
theorem HY (v:Int):∀(bs:List Bd) (n:Nat),(match fR (.int .i64 v) (gA bs) n with|some i=>n<=i/\∃b,bs[i-n]? = some b/\bs.find? (λb=>b.v==v)=some b|none=>bs.find? (λb=>b.v==v)=none)
 |[],n=>by simp[gA,fR]
 | b :: bs,n=>by
  have ih:=HY v bs (n+1);simp only[gA,aI,fR,iN]at ih ⊢;by_cases c:b.v=v
  ·have hc:fP (.int .i64 v) (.int .i64 b.v)=true:=by simp[fP,c]
   have lS:(b.v==v)=true:=by simpa using c
   rw[hc,if_pos rfl];refine⟨ae _,b,by simp,?_⟩;rw[lS]
  ·have hc:fP (.int .i64 v) (.int .i64 b.v)=false:=by simp only[fP,beq_eq_false_iff_ne];exact λe=>c e.symm
   have lS:(b.v==v)=false:=by simpa using c
   rw[hc,lS];simp only[aX,if_false];split at ih
   ·rename_i i _;obtain⟨h1,x,h2,h3⟩:=ih;refine⟨by omega,x,?_,h3⟩;rw[show i-n=(i-(n+1))+1 by omega];simpa using h2
   ·exact ih
theorem NZ (bs:List Bd) (v:Int) (z:ah):fT (gA bs) (gZ bs) z (.int .i64 v) true=match bs.find? (λb=>b.v==v) with|some b=>.dw [b.t.aH,.bool true] | none=>.dw [z,.bool false]:=by
 have h:=HY v bs 0;unfold fT;cases hk:fR (.int .i64 v) (gA bs) 0 with
 |some i =>
  rw[hk]at h;obtain⟨_,b,h2,h3⟩:=h;rw[h3];simp only[if_true,gZ,List.getD,cE];rw[gU]at h2;rw[h2];rfl
 |none =>
  rw[hk]at h;rw[show bs.find? (λb=>b.v==v)=none from h];rfl
theorem Ywe (bs:List Bd) (t:Tm) (ht:nj (-1-t.head)):az Tryz.prog 193 [.pm (gA bs) (gZ bs),t.aH] (r8 bs t).aH:=by
 refine az.begin (rs:=[.cell 4 70]) (m:=16) 1000 Tryz.func193 rfl rfl rfl (by decide) (by simp[go_sem,cV]) ?_;have hw:IntKind.i64.wrap (-1-t.head) = -1-t.head:=dt ht;have wg:r8 bs t=((bs.find? λb=>b.v == -1-t.head).map Bd.t).getD t:=rfl;have qz:=NZ bs (-1-t.head) (.agg [.int .i64 0,.a8]);cases hf:bs.find? (λb=>b.v == -1-t.head) with
 |some b =>
  rw[hf]at qz wg;rw[wg];simp only[go_sem,dO,hw,BJ,qz,cq,bD,bd]
 |none =>
  rw[hf]at qz wg;rw[wg];simp only[go_sem,dO,hw,BJ,qz,cq,lz,dD]
mutual
def Tm.sub (bs:List Bd):Tm->Tm
 |.mk h ts=>if h<0 then r8 bs (.mk h ts) else .mk h (Tm.uM bs ts)
def Tm.uM (bs:List Bd):List Tm->List Tm
 |[]=>[]
 |t :: ts=>t.sub bs :: Tm.uM bs ts
end
theorem S0 (bs:List Bd):∀ts,Tm.uM bs ts=ts.map (Tm.sub bs)
 |[]=>rfl
 |t :: ts=>by simp[Tm.uM,S0 bs ts]
def xZ (bs:List Bd):ah:=.fn 193 [.pm (gA bs) (gZ bs)] []
theorem jC {n:Nat}(bs:List Bd):bG n (gA bs)/\bG n (gZ bs):=⟨wx λ_ _=>trivial,wx λb _=>cV b.t⟩
@[go_sem]theorem Xan {π:Nat->Nat}(bs:List Bd):ez π (xZ bs)=xZ bs:=zJ (show ah.low 0 (xZ bs) from⟨⟨jC bs,trivial⟩,trivial⟩)
@[go_sem]theorem Xaq {n:Nat}(bs:List Bd):ah.low n (xZ bs)=True:=eq_true ⟨⟨jC bs,trivial⟩,trivial⟩
@[go_sem]theorem Ac (b sz:Nat)(l:List ah):((eR b sz l).dy=true)=True:=eq_true (by cases l<;>rfl)
theorem TS {bs:List Bd}{t:Tm}(h:t.head<0):t.sub bs=r8 bs t:=by
 cases t;rw[Tm.sub];exact if_pos h
theorem Ysn {bs:List Bd}{t:Tm}(h:¬t.head<0):t.sub bs=.mk t.head (t.args.map (Tm.sub bs)):=by
 cases t;rw[Tm.sub,S0];exact if_neg h
theorem H4 {t:Tm}(h:t.fit):nj t.head:=by cases t;exact h.1
theorem zH {t:Tm}(h:t.fit):Tm.fits t.args:=by cases t;exact h.2
theorem Wh (bs:List Bd):∀(n:Nat) (t:Tm),t.size<=n->t.size<=100000000->t.fit->az Tryz.prog 191 [t.aH,xZ bs] (t.sub bs).aH
 |0,t,h,_,_=>by have:=n9 t;omega
 | n+1,t,h,hs,hf=>by
  refine az.begin (rs:=[.cell 4 70]) (m:=32) 1000 Tryz.func191 rfl rfl rfl (by decide) (by simp[go_sem,cV]) ?_;have eM:=n9 t;have nw:=mH t.args;by_cases dP:t.head<0
  ·simp only[go_sem,dO,dP];have zR:t.sub bs=r8 bs t:=TS dP;have fA:nj (-1-t.head):=by have:=H4 hf;unfold nj at *;omega
   refine ak.bm [] (Ywe bs t fA) (by simp only[bq,aY,bf,cq];exact bL _ _ _) (by simp[go_sem,cV,jC]) ?_;rw[eW];simp only[ite_self];refine aC.g ?_;rw[zR];simp only[go_sem,dO];rw[cq];exact bL _ _ _
  ·simp only[go_sem,dO,dP,ao];refine aC.ep (ι:={q:Nat×List Tm // q.1<=t.args.length/\q.2=(t.args.take q.1).map (Tm.sub bs)}) 1000 (λq=>dV 34 [(1,xZ bs),(4,.ptr 1 0),(5,.ptr 2 0),(18,.ps 2 (t.args.map Tm.aH)),(19,.int .i64 t.args.length),(20,.int .i64 q.1.1)])
    (λq=>[none,some (.var [.int .i64 0,.a8]),some (.var [.int .i64 t.head,eR 3 2 (q.1.2.map Tm.aH)]),cX (q.1.2.map Tm.aH)]) (λq=>t.args.length-q.1.1) ⟨(0,[]),by simp⟩ [] ?_ (λ_=>aj _) ?_
   ·refine eL rfl ?_;simp only[go_sem,aR,pU,pC,bC,bT (bC _)]
   ·rintro⟨⟨i,L⟩,hi,hL⟩;simp only at hi hL;by_cases bx:(i:Int)<t.args.length
    ·have aL:i<t.args.length:=by omega
     have hw:=W1' i (by omega)
     have hg:(t.args.map Tm.aH).getD i .undef=t.args[i].aH:=jT aL;simp only[go_sem,bx,ao,hg,dO];refine⟨by omega,?_⟩;refine aC.draw [⟨none,[],[5]⟩,⟨none,[],[5]⟩,.no,.no,.no,⟨some 5,[5],[]⟩,⟨some 6,[3,6],[]⟩,.no,⟨none,[2],[]⟩] 5 7 mixed rfl rfl (by decide) ?_;simp only[go_sem,cM];have rX:=GV (zH hf) i aL;have a1:=zC t.args i aL;have a2:=yj t.args (i+1);obtain⟨x,hx⟩:∃x,t.args[i]=x:=⟨_,rfl⟩;simp only[hx]at rX a1 ⊢;refine jS (Wh bs n x (by omega) (by omega) rX) (by simp only[cq,aY,bf];exact bL _ _ _) (by simp[go_sem,cV]) ?_;have h3:bW ([none,some (.var [.int .i64 0,.a8]),some (.var [.int .i64 t.head,eR 3 2 (L.map Tm.aH)]),cX (L.map Tm.aH),some (.var [.int .i64 x.head,.ps 2 (x.args.map Tm.aH)]),some (.row [(x.sub bs).aH] 0),none]) 3=cX (L.map Tm.aH):=rfl;have nz:=of_eq_true (BO [x.sub bs]);rw[show[x.sub bs].map Tm.aH=[(x.sub bs).aH] from rfl]at nz
     have pI:List.take 1 [(x.sub bs).aH]=[(x.sub bs).aH]:=rfl;simp only[go_sem,qg h3,nz,ao,pI,dO];have Z1:L.length=i:=by rw[hL];simp;omega
     refine⟨by rw[cq];rfl,by omega,?_⟩;refine aC.g ?_;simp only[go_sem,hw];refine⟨⟨(i+1,L++[x.sub bs]),by simp only;omega,by simp only;rw[hL,List.take_succ_eq_append_getElem aL,hx];simp⟩,[(3,6),(6,3)],eL rfl ?_,by simp only;omega⟩;have lw:bG 0 ((L++[x.sub bs]).map Tm.aH):=bC _;dsimp only
     rw[cf]at lw ⊢;rw[qP (by simp),qQ (by simp)];simp only[aI,aR]at lw;simp only[go_sem,bC,bT (bC _),bT lw,iD (aj 4) lw,ao,aq,aF,aI,aR]
    ·have dm:i=t.args.length:=by omega
     subst dm;simp only[go_sem,bx];refine aC.g ?_;simp only[go_sem];rw[Ysn dP,cq];rw[show(Tm.mk t.head (t.args.map (Tm.sub bs))).head=t.head from rfl,show(Tm.mk t.head (t.args.map (Tm.sub bs))).args=t.args.map (Tm.sub bs) from rfl]
     rw[hL,bQ];simp only[go_sem,nI]
theorem Zs0 (ts:List Bd) (n0:Nat) (lG:av) (S:Nat->av) (p:Nat) (y:ah) (h0 : lG.length=n0) (Az : lG++[none]=S 0) (hlen:∀i,(S i).length=n0+1) (fc:∀i,bW (S i) p=some (.var [.ps 3 (dp ts)])) (hp:p<n0)
  (hs:∀i,bH (n0+1) (S i)) (lJ:bH n0 lG) (oU:y.low n0) (hl:ts.length<2 ^ 62)
  (hy:∀i (h:i<ts.length),ak Tryz.prog y [.int .i64 ((ts.length:Int)-1-i),ts[ts.length-1-i].aH] (S i) (λr σ'=>r=.bool true/\n0+1<=σ'.length/\bH σ'.length σ'/\∃π:Nat->Nat,(∀b,b<n0->π b=b)/\(∀b b',b<n0+1->b'<n0+1->π b = π b'->b=b')/\iH π σ' 0 (S (i+1)))) :
  ak Tryz.prog (.fn 227 [] [.ptr p 0]) [y] lG (λ_ σ'=>σ'=S ts.length):=by
 subst h0;refine ak.iq (rs:=[]) (m:=17) Tryz.func227 rfl rfl rfl rfl rfl ?_;refine aC.pad 1 (ae _) (by simp[go_sem,oU,hp]) lJ ?_;rw[show List.replicate 1 (none:Option bS)=[none] from rfl,Az]
 refine aC.g ?_;simp only[go_sem,fc,ae,q_];rw[dt (by omega)];have FK:bH (lG.length+1) (S 0):=hs 0;refine aC.cA (ι:={i:Nat // i<=ts.length}) 1000 (λi=>dV 19 [(0,y),(1,.ptr p 0),(3,.int .i64 ((ts.length:Int)-1-i.1))]) (λi=>S i.1) (λi=>ts.length-i.1) ⟨0,by omega⟩ ?_ (λi=>by rw[hlen];exact eH _) ?_
 ·simp only[go_sem,hlen,FK,oJ (eH _) oU,bP,Int.sub_zero];exact⟨gL _,by omega⟩
 ·rintro⟨i,hi⟩;by_cases bx : 0<=(ts.length:Int)-1-i
  ·have aL:i<ts.length:=by omega
   have hb:ts.length-1-i<ts.length:=by omega
   have hn:((ts.length:Int)-1-i).toNat=ts.length-1-i:=by omega
   simp only[go_sem,bx,fc,ae,q_,hn,LY hb,Cw]
   (repeat((with_reducible refine And.intro ?_ ?_);·omega))
   refine aC.Ak (.bool true) trivial (by rw[hlen];exact eH _) ?_ ?_ ?_ ?_ ?_ ?_
   ·rw[hlen];exact oJ (eH _) oU
   ·simp[go_sem,bC]
   ·rw[hlen];exact hs i
   ·rw[hlen];simp[go_sem,Gz,GG,E2,oU,hp,bC]
   ·rw[hlen];have pJ:=oJ (eH _) oU;simp[go_sem,pJ,bC];omega
   rw[hlen];refine(hy i aL).mono ?_;rintro r σ' ⟨k1,k2,k3,π,k4,k5,k6⟩;refine⟨k1,k2,k3,π,S (i+1),hlen _,k4,k5,k6,hs _,?_⟩;refine aC.g ?_;simp only[go_sem];refine⟨⟨i+1,aL⟩,?_,by simp only;omega⟩;have FL:bH (lG.length+1) (S (i+1)):=hs (i+1);simp only[go_sem,hlen,FL,oJ (eH _) oU];rw[dt (by omega)];exact⟨by rw[show(ts.length:Int)-1-i-1=ts.length-1-((i+1:Nat):Int) by omega],gL _,by omega⟩
  ·have dm:i=ts.length:=by omega
   subst dm;simp only[go_sem,bx];refine aC.g ?_;simp only[go_sem];rw[gy];exact⟨S ts.length,gL _,by rw[hlen];exact eH _,by rw[hlen];exact hs _,trivial,rfl⟩
theorem Zre (ts:List Bd) (σ:av) (hs:bH σ.length σ):ak Tryz.prog (.fn 211 [] []) [.ps 3 (dp ts)] σ
  (λr σ'=>r=.fn 227 [] [.ptr σ.length 0]/\σ' = σ++[some (.var [.ps 3 (dp ts)])]):=by
 refine ak.begin (rs:=[.tmp 2]) (m:=3) 1000 Tryz.func211 rfl rfl rfl rfl rfl ?_;simp only[go_sem];rw[DW,gy];exact⟨_,gL _,by simp,qO (ph (by simp) hs) (by simp[go_sem,bC]),by simp[go_sem],rfl,rfl⟩
theorem N7 {l:List Bd} {b:Bd} {x:ah} (hx:x=b.t.aH) (h:l.find? (λc=>c.v==b.v)=none):jN (gA l) (gZ l) (.int .i64 b.v) x=(gA (l++[b]),gZ (l++[b])):=by
 have h1:=HY b.v l 0;unfold jN;cases hk:fR (.int .i64 b.v) (gA l) 0 with
 |some i =>
  rw[hk]at h1;obtain⟨_,c,_,h3⟩:=h1;rw[h]at h3;cases h3
 |none=>simp[gA,gZ,hx]
theorem Yl7 (bs:List Bd) (hl:bs.length<1000000) (hd:(bs.map Bd.v).Nodup):az Tryz.prog 192 [.ps 3 (dp bs)] (.pm (gA bs.reverse) (gZ bs.reverse)):=by
 refine az.begin (rs:=[.tmp 2]) (m:=16) 1000 Tryz.func192 rfl rfl rfl (by decide) ⟨(jC _).1,(jC _).2⟩ ?_;simp only[go_sem];refine(Zre bs _ (by simp[go_sem])).mono ?_;rintro _ _ ⟨rfl,rfl⟩;refine aC.g ?_;simp only[go_sem];refine aC.rangeFunc (dV 17 [(3,.ptr 1 0)]) ?_ ?_ (λρ ht xL kU tv=>?_)
 ·simp only[go_sem]
 ·exact λb hb=>by cases hb
 simp only[go_sem];have ka:bG 4 ρ.tm:=by rw[ht];simp[go_sem,Cz,CH]
 have gE:∀l:List Bd,bH 5 [some (.map (gA l) (gZ l) false),some (.var [.map 0]),some (.var [.ps 3 (dp bs)]),some (.loop (ρ.at .ready)),none] :=
  λl=>⟨⟨(jC l).1,(jC l).2⟩,⟨qq 4,trivial⟩,⟨of_eq_true (nq bs),trivial⟩,iD (by decide) ka,trivial,trivial⟩
 refine(Zs0 bs 4 _ (λk=>[some (.map (gA (bs.reverse.take k)) (gZ (bs.reverse.take k)) false),some (.var [.map 0]),some (.var [.ps 3 (dp bs)]),some (.loop (ρ.at .ready)),none]) 2 (.ni 3) rfl rfl (λ_=>rfl) (λ_=>rfl) (by decide) (λk=>gE _) ?_ (cQ 3) (by omega) (λk hk=>?_)).mono ?_
 ·exact⟨⟨trivial,trivial⟩,⟨qq 3,trivial⟩,⟨of_eq_true (nq bs),trivial⟩,ka,trivial⟩
 ·refine ak.stay rfl (gE _) ?_;refine ak.m8 1000 ht xL kU tv rfl rfl ?_;simp only[go_sem,Cw];have wc:k<bs.reverse.length:=by simpa using hk
  have Ef:bs.reverse[k]=bs[bs.length-1-k]:=List.getElem_reverse wc;have oB:bs.reverse.take (k+1)=bs.reverse.take k++[bs[bs.length-1-k]]:=by rw[List.take_succ_eq_append_getElem wc,Ef]
  have Ec:(bs.reverse.take k).find? (λc=>c.v==(bs[bs.length-1-k]).v)=none:=by
   rw[jw];intro c hc e;have hv:c.v=(bs[bs.length-1-k]).v:=by simpa using e
   have qA:((bs.reverse.take (k+1)).map Bd.v).Nodup:=by
    have h1:(bs.reverse.map Bd.v).Nodup:=by rw[List.map_reverse];exact List.pairwise_reverse.2 (hd.imp λh e=>h e.symm)
    exact h1.sublist ((List.take_sublist _ _).map _)
   rw[oB,cf,gC]at qA;exact qA.2.2 _ (n7 hc) _ (by simp) hv
  rw[N7 (b:=bs[bs.length-1-k]) (cq _).symm Ec,<-oB];refine⟨BJ _ _,?_⟩;rw[wB];exact⟨rfl,[some (.map (gA (bs.reverse.take (k+1))) (gZ (bs.reverse.take (k+1))) false),some (.var [.map 0]),some (.var [.ps 3 (dp bs)]),some (.loop (ρ.at .ready)),none],by simp[go_sem],ae _,gE _,rfl,rfl⟩
 rintro r' jO rfl;rw[E3];refine⟨.ready,rfl,?_⟩;rw[G0];rw[show bs.reverse.take bs.length=bs.reverse by rw[<-List.length_reverse,bQ]];refine aC.g ?_;simp only[go_sem]
theorem Np:∀(bs:List Bd) (m:Int),ki m bs=0->(∀b∈bs,m<b.v)/\(bs.map Bd.v).Nodup
 |[],_,_=>by simp
 | b :: l,m,h=>by
  rw[ki]at h;split at h
  ·cases h
  ·rename_i hc;have uu:m<b.v:=by omega
   obtain⟨h1,h2⟩:=Np l b.v h;refine⟨λc Ms=>?_,?_⟩
   ·rcases aU.1 Ms with rfl|Ms
    ·exact uu
    ·have:=h1 c Ms;omega
   ·simp only[aI,fM];refine⟨λhm=>?_,h2⟩;obtain⟨c,C6,hc4⟩:=cN.1 hm;have:=h1 c C6;omega
def sy (bs:List Bd)(t:Tm):Tm×Int :=
 if ki (-1) bs≠0\/t.check≠0 then (gQ,1) else if (t.sub bs.reverse).check=0 then (t.sub bs.reverse,0) else (gQ,(t.sub bs.reverse).check)
theorem Yfe (bs:List Bd) (t:Tm) (hl:bs.length<1000000) (hb:∀b∈bs,b.t.size<99999999) (ht:t.size<99999999) (hf:t.fit) (hs:(t.sub bs.reverse).size<99999999) :
  az Tryz.prog 170 [.ps 3 (dp bs),t.aH] (.dw [(sy bs t).1.aH,.int .i64 (sy bs t).2]):=by
 refine az.begin (rs:=[.cell 4 70,.tmp 5]) (m:=21) 1000 Tryz.func170 rfl rfl rfl (by decide) (by simp[go_sem,cV]) ?_;simp only[go_sem,dO];refine ak.bm [] (Yf8 bs hl hb) (by(try simp only[cq]);exact bL _ _ _) (by simp[go_sem,cV,bC]) ?_;simp only[bj,bA,bz,if_true];refine aC.g ?_
 have p7:=EL t (by omega);by_cases h1:ki (-1) bs=0
 ·obtain ⟨_,qA⟩:=Np bs _ h1;simp only[go_sem,h1];refine ak.bm [] (p7) (by(try simp only[cq]);exact bL _ _ _) (by simp[go_sem,cV,bC]) ?_;simp only[bj,bA,bz,if_true];refine aC.g ?_
  by_cases h2:t.check=0
  ·have AG:sy bs t=if (t.sub bs.reverse).check=0 then (t.sub bs.reverse,0) else (gQ,(t.sub bs.reverse).check):=by unfold sy;rw[if_neg (by simp[h1,h2])]
   rw[AG];simp only[go_sem,h2];refine aC.draw [.no,.no,.no,.no,.no,.no,.no,.no,⟨none,[1],[]⟩] 2 2 mixed rfl rfl (by decide) ?_;simp only[go_sem,cM];refine jS (Yl7 bs hl qA) (bL _ _ _) (by simp[go_sem]) ?_;simp only[go_sem];refine jS (Wh bs.reverse _ t (ae _) (by omega) hf) (by simp only[cq,xZ,aY,bf];exact bL _ _ _) (by simp[go_sem,cV]) ?_;simp only[go_sem];by_cases h3:(t.sub bs.reverse).check=0
   ·rw[if_pos h3];have hend:=T5 (t.sub bs.reverse) hs;rw[if_pos h3]at hend;refine jS hend (bL _ _ _) (by simp[go_sem,cV]) ?_;simp only[go_sem,dO];refine aC.g ?_;simp only[go_sem,cq]
   ·rw[if_neg h3];have hend:=T5 (t.sub bs.reverse) hs;rw[if_neg h3]at hend;refine jS hend (bL _ _ _) (by simp[go_sem,cV]) ?_;simp only[go_sem,dO];refine aC.g ?_;simp only[go_sem,cq]
  ·have AG:sy bs t=(gQ,1):=by unfold sy;rw[if_pos (.inr h2)]
   rw[AG];simp only[go_sem,h2,cq,P8,PY,aR]
 ·have AG:sy bs t=(gQ,1):=by unfold sy;rw[if_pos (.inl h1)]
  rw[AG];simp only[go_sem,h1,cq,P8,PY,aR]
def mM:List (Tm×Tm)->Nat
 |[]=>0
 |x :: r=>x.1.size+mM r
theorem PW:∀(a b:List (Tm×Tm)),mM (a++b)=mM a+mM b
 |[],b=>by simp[mM]
 |x :: a,b=>by simp only[bq,mM,PW a b];omega
theorem LW:∀a:List (Tm×Tm),mM a.reverse=mM a
 |[]=>rfl
 |x :: a=>by rw[pA,PW,LW a];simp only[mM];omega
theorem LQ:∀(a b:List Tm),mM (a.zip b)<=Tm.bw a
 |[],_=>by simp[mM]
 |x :: a,[]=>by simp[mM]
 |x :: a,y :: b=>by simp only[jx,mM,Tm.bw];have:=LQ a b;omega
theorem Ib (a b:Tm)(r:List (Tm×Tm)):mM ((a.args.zip b.args).reverse++r)<a.size+mM r:=by
 rw[PW,LW];have h1:=LQ a.args b.args;have h2:=n9 a;omega
theorem BM (a:Tm): 0<a.size:=by have:=n9 a;omega
def iF:List (Tm×Tm)->List Bd->Option (List Bd)
 |[],m=>some m
 | x :: r,m =>
  if 0<=-1-x.1.head then
   match m.find? (λc=>c.v == -1-x.1.head) with
   |some c=>if c.t=x.2 then iF r m else none
   |none=>iF r (m++[⟨-1-x.1.head,x.2⟩])
  else if x.1.head≠x.2.head\/x.1.args.length≠x.2.args.length then none
  else iF ((x.1.args.zip x.2.args).reverse++r) m
termination_by s=>mM s
decreasing_by
 ·simp only[mM];have:=BM x.1;omega
 ·simp only[mM];have:=BM x.1;omega
 ·simp only[mM];exact Ib x.1 x.2 r
def pK (s:List (Tm×Tm)):List ah:=s.reverse.map λx=>x.1.aH
def pL (s:List (Tm×Tm)):List ah:=s.reverse.map λx=>x.2.aH
theorem G4 (s:List (Tm×Tm)):(pK s).length=s.length:=by simp[pK]
theorem G6 (s:List (Tm×Tm)):(pL s).length=s.length:=by simp[pL]
theorem Zz (x:Tm×Tm)(r:List (Tm×Tm)):pK (x :: r)=pK r++[x.1.aH]:=by simp[pK]
theorem Zm (x:Tm×Tm)(r:List (Tm×Tm)):pL (x :: r)=pL r++[x.2.aH]:=by simp[pL]
@[go_sem]theorem LL {n:Nat}(s:List (Tm×Tm)):bG n (pK s)=True:=eq_true (wx λx _=>cV x.1)
@[go_sem]theorem LS {n:Nat}(s:List (Tm×Tm)):bG n (pL s)=True:=eq_true (wx λx _=>cV x.2)
theorem P6:∀s:List (Tm×Tm),s.length<=mM s
 |[]=>ae _
 |x :: r=>by simp only[aq,mM];have:=P6 r;have:=BM x.1;omega
theorem TC {a b:List Tm}(h:a.length=b.length):pK (a.zip b).reverse=a.map Tm.aH:=by
 rw[pK,iQ];have:=List.map_fst_zip (l₁:=a) (l₂:=b) (by omega);rw[show(a.zip b).map (λx=>x.1.aH)=((a.zip b).map Prod.fst).map Tm.aH by simp,this]
theorem Us {a b:List Tm}(h:a.length=b.length):pL (a.zip b).reverse=b.map Tm.aH:=by
 rw[pL,iQ];have:=List.map_snd_zip (l₁:=a) (l₂:=b) (by omega);rw[show(a.zip b).map (λx=>x.2.aH)=((a.zip b).map Prod.snd).map Tm.aH by simp,this]
theorem To {a b:List Tm}(h:a.length=b.length)(r:List (Tm×Tm)):pK ((a.zip b).reverse++r)=pK r++a.map Tm.aH:=by
 have:=TC h;rw[pK,iQ]at this;rw[pK,List.reverse_append,iQ,cf,this];rfl
theorem YK {a b:List Tm}(h:a.length=b.length)(r:List (Tm×Tm)):pL ((a.zip b).reverse++r)=pL r++b.map Tm.aH:=by
 have:=Us h;rw[pL,iQ]at this;rw[pL,List.reverse_append,iQ,cf,this];rfl
theorem yY:∀ {ts:List Tm},Tm.fits ts->∀t∈ts,t.fit
 |t :: ts,h,x,hx=>by
  rcases aU.1 hx with rfl|hx
  ·exact h.1
  ·exact yY h.2 x hx
theorem sO:∀ {ts:List Tm} {t:Tm},t∈ts->t.size<=Tm.bw ts
 |x :: ts,t,h=>by
  simp only[Tm.bw];rcases aU.1 h with rfl|h
  ·omega
  ·have:=sO h;omega
theorem VS {m:List Bd} {c:Bd} {v:Int} {x:ah} (hx:x=c.t.aH) (h:m.find? (λd=>d.v==v)=some c):jN (gA m) (gZ m) (.int .i64 v) x=(gA m,gZ m):=by
 have h1:=HY v m 0;unfold jN;cases hk:fR (.int .i64 v) (gA m) 0 with
 | some i =>
  rw[hk]at h1;obtain⟨_,d,h2,h3⟩:=h1;rw[h]at h3;cases h3;rw[gU]at h2;simp only[bM,true_and];apply bZ;intro j;rw[eA];split
  ·rename_i e;subst e;have bx:i<(gZ m).length:=by simp only[gZ,ao];exact(aN.1 h2).1
   rw[if_pos bx];simp[gZ,h2,hx]
  ·rfl
 |none =>
  rw[hk]at h1;rw[show m.find? (λd=>d.v==v)=none from h1]at h;cases h
def Qy:Option (List Bd)->ah->av->Prop
 |none,r,_=>r=.bool false
 |some m,r,σ'=>r=.bool true/\σ'=[some (.map (gA m) (gZ m) false)]
theorem Yh9 (g:Option (List Bd)) (a b:List Tm) (hg:iF (a.zip b).reverse []=g) (dL:a≠[]) (I5:a.length=b.length) (hs:Tm.bw a<99999999) (wg:Tm.bw b<99999999) (D_:Tm.fits a) (B3:Tm.fits b) :
  ak Tryz.prog (.fn 208 [] []) [.ps 2 (a.map Tm.aH),.ps 2 (b.map Tm.aH),.map 0] [some (.map [] [] false)]
   (Qy g):=by
 refine ak.begin (rs:=[.tmp 6]) (m:=79) 1000 Tryz.func208 rfl rfl rfl rfl rfl ?_;have nw:=mH a;have qS:=mH b;have RG:b≠[]:=λe=>dL (bn (by rw[I5,e];rfl));simp only[go_sem];refine ak.vN [] (HU a dL (by omega)) (bL _ _ _) (by simp[go_sem,bC]) ?_;rw[eW];simp only[Cx,CA,CI,xv,CM,up,bT (bC _)];refine aC.g ?_;simp only[go_sem];refine ak.vN [] (HU b RG (by omega)) (bL _ _ _) (by simp[go_sem,bC]) ?_;rw[eW];simp only[Cx,CA,CI,xv,CM,up,bT (bC _)];refine aC.g ?_;simp only[go_sem];refine aC.ep (ι:={q:List (Tm×Tm)×List ah×List ah×List Bd // iF q.1 q.2.2.2=g/\bG 0 q.2.1/\bG 0 q.2.2.1/\mM q.1<=Tm.bw a/\(∀x∈q.1,x.1.fit/\x.2.size<99999999)/\(∀x∈q.2.2.2,x.t.size<99999999)}) 1000
  (λq=>dV 82 [(2,.map 0),(6,.bool false),(7,.os 2 0 q.1.1.length 2),(8,.os 4 0 q.1.1.length 2)])
  (λq=>[some (.map (gA q.1.2.2.2) (gZ q.1.2.2.2) false),none,some (.row (pK q.1.1++q.1.2.1) 0),none,some (.row (pL q.1.1++q.1.2.2.1) 0)]) (λq=>mM q.1.1) ⟨((a.zip b).reverse,[],[],[]),?_⟩ [] ?_ (λ_=>by simp) ?_
 ·refine⟨hg,trivial,trivial,?_,λx hx=>?_,λx hx=>by cases hx⟩
  ·rw[LW];exact LQ a b
  ·have hx:=du.1 hx;have xS:=(dC hx).1;have Es:=sO (dC hx).2;exact⟨yY D_ _ xS,by omega⟩
 ·refine eL rfl ?_;dsimp only
  rw[TC I5,Us I5,show(a.zip b).reverse.length=a.length by simp[I5]];simp only[go_sem,bC,bT (bC _),bf,I5,show gA []=[] from rfl,show gZ []=[] from rfl]
 ·rintro ⟨⟨s,j1,j2,m⟩,h1,h2,h3,h4,h5,h6⟩;simp only at h1 h2 h3 h4 h5 h6;cases s with
  |nil =>
   rw[iF]at h1;subst h1;simp only[go_sem,aF];refine aC.g ?_;simp only[go_sem];rw[gy];exact⟨[some (bS.map (gA m) (gZ m) false)],by simp[go_sem],ae _,⟨⟨(jC m).1,(jC m).2⟩,trivial⟩,trivial,rfl,rfl⟩
  | cons x r =>
   obtain⟨J0,uJ⟩:=h5 x (by simp);have FT:∀y∈r,y.1.fit/\y.2.size<99999999:=λy hy=>h5 y (by simp[hy]);have FU:=P6 r;rw[mM]at h4;have A6:=BM x.1;have Ea:=H4 J0;unfold nj at Ea;have sW:IntKind.i64.wrap ((r.length:Int)+1-1)=r.length:=by rw[dt (by omega)];omega
   have oS:(0:Int)<r.length+1:=by omega
   have wi:IntKind.i64.wrap (-1-x.1.head) = -1-x.1.head:=dt (by omega);have hA:pK (x :: r)++j1=pK r++x.1.aH :: j1:=by rw[Zz];simp
   have hB:pL (x :: r)++j2=pL r++x.2.aH :: j2:=by rw[Zm];simp
   have Ri:(pK r++x.1.aH :: j1).getD r.length .undef=x.1.aH:=by rw[<-G4 r];simp[List.getD]
   have Rj:(pL r++x.2.aH :: j2).getD r.length .undef=x.2.aH:=by rw[<-G6 r];simp[List.getD]
   have Ju:(pK r++x.1.aH :: j1).length=r.length+1+j1.length:=by simp[G4];omega
   have Jv:(pL r++x.2.aH :: j2).length=r.length+1+j2.length:=by simp[G6];omega
   simp only[go_sem,aq,hA,hB,fJ,fK,oS,sW];refine aC.draw [⟨none,[],[5,6]⟩,⟨none,[],[5,6]⟩,⟨none,[],[5,6]⟩,⟨none,[],[5,6]⟩,⟨none,[],[5,6]⟩,⟨none,[],[5,6]⟩,⟨none,[],[5,6]⟩,⟨none,[],[5,6]⟩,⟨some 5,[5],[6]⟩,⟨some 6,[6],[5]⟩,⟨none,[5],[]⟩,⟨none,[6],[]⟩] 5 7 mixed rfl rfl (by decide) ?_;simp only[go_sem,cM,Ju,Jv,Ri,Rj,dO];refine⟨⟨by omega,by omega⟩,by omega,⟨by omega,by omega⟩,by omega,?_⟩;refine aC.g ?_;refine aC.draw [] 7 7 mixed rfl rfl (by decide) ?_;simp only[go_sem,cM];refine⟨by omega,by omega,?_⟩;have hl:∀n,bG n (pK r++x.1.aH :: j1)/\bG n (pL r++x.2.aH :: j2):=λn=>⟨uQ (of_eq_true (LL r)) ⟨cV x.1,iD (aj _) h2⟩,uQ (of_eq_true (LS r)) ⟨cV x.2,iD (aj _) h3⟩⟩;by_cases hv : 0<=-1-x.1.head
   ·rw [iF,if_pos hv]at h1;have qz:=NZ m (-1-x.1.head) (.agg [.int .i64 0,.a8]);cases hf:m.find? (λc=>c.v == -1-x.1.head) with
    |some c =>
     rw[hf]at qz h1;simp only at h1 qz;have vG:=h6 c (ck hf);refine aC.g ?_;simp only[go_sem,wi,hv,BJ,qz,dO];refine ak.bm [] (CB c.t x.2 (by omega) (by omega)) (by(try simp only[cq]);exact bL _ _ _) (by simp[go_sem,cV,bC]) ?_;simp only[bj,bA,bz,if_true];refine aC.g ?_
     by_cases he:c.t=x.2
     ·rw[if_pos he]at h1;have xl:=VS (x:=.agg [.int .i64 x.2.head,.ps 2 (x.2.args.map Tm.aH)]) (by rw[he,cq]) hf;simp only[go_sem,he,BJ,xl];refine⟨⟨(r,x.1.aH :: j1,x.2.aH :: j2,m),h1,⟨cV x.1,h2⟩,⟨cV x.2,h3⟩,by simp only;omega,FT,h6⟩,[],eL rfl ?_,by simp only[mM];omega⟩;have zg:=hl 0;simp only[go_sem,jC,bT (jC _).1,bT (jC _).2,bT zg.1,bT zg.2,hl]
     ·rw[if_neg he]at h1;subst h1;simp only[go_sem,he];refine aC.g ?_;simp only[go_sem];rw[gy];exact⟨[none],by simp[go_sem],ae _,⟨trivial,trivial⟩,trivial,rfl⟩
    | none =>
     rw[hf]at qz h1;simp only at h1 qz;have xl:=N7 (l:=m) (b:=⟨-1-x.1.head,x.2⟩) (x:=.agg [.int .i64 x.2.head,.ps 2 (x.2.args.map Tm.aH)]) (cq _).symm hf;refine aC.g ?_;simp only[go_sem,wi,hv,BJ,qz,dO,xl];refine⟨⟨(r,x.1.aH :: j1,x.2.aH :: j2,m++[⟨-1-x.1.head,x.2⟩]),h1,⟨cV x.1,h2⟩,⟨cV x.2,h3⟩,by simp only;omega,FT,λy hy=>?_⟩,[],eL rfl ?_,by simp only[mM];omega⟩
     ·rcases a_.1 hy with hy|hy
      ·exact h6 y hy
      ·rw[aK.1 hy];exact uJ
     have zg:=hl 0;simp only[go_sem,jC,bT (jC _).1,bT (jC _).2,bT zg.1,bT zg.2,hl]
   ·rw [iF,if_neg hv]at h1;by_cases c1:x.1.head=x.2.head
    ·by_cases c2:x.1.args.length=x.2.args.length
     ·rw [if_neg (by simp[c1,c2])]at h1;have xR:IntKind.i64.wrap (-1-x.2.head) = -1-x.2.head:=by rw[<-c1];exact wi
      have yB:¬0<=-1-x.2.head:=by rw[<-c1];exact hv
      have c3:(x.1.args.length:Int)=x.2.args.length:=by omega
      refine aC.g ?_;simp only[go_sem,xR,yB,c1,c3,ao];refine aC.draw [.no,.no,.no,⟨some 7,[2,7],[]⟩,⟨none,[],[2,7]⟩,⟨none,[],[2,7]⟩,⟨none,[],[2,7]⟩,⟨some 8,[4,8],[]⟩] 7 9 mixed rfl rfl (by decide) ?_;have R2:(pK r++x.1.aH :: j1).take r.length=pK r:=by rw[<-G4 r,oG]
      have R3:(pL r++x.2.aH :: j2).take r.length=pL r:=by rw[<-G6 r,oG]
      have QT:=mH x.1.args;have R1:=n9 x.1;simp only[go_sem,cM,Ju,Jv,R2,R3,ao];refine⟨⟨by omega,by omega,by omega⟩,⟨by omega,by omega,by omega⟩,?_⟩;refine aC.g ?_;simp only[go_sem];have MD:=Ib x.1 x.2 r;refine⟨⟨((x.1.args.zip x.2.args).reverse++r,[],[],m),h1,trivial,trivial,by simp only;omega,λy hy=>?_,h6⟩,[(2,7),(7,2),(4,8),(8,4)],eL rfl ?_,by simp only[mM];omega⟩
      ·rcases a_.1 hy with hy|hy
       ·have hy:=du.1 hy;have a1:=sO (dC hy).2;have a2:=n9 x.2;exact⟨yY (zH J0) _ (dC hy).1,by omega⟩
       ·exact FT y hy
      dsimp only
      rw[To c2,YK c2,show((x.1.args.zip x.2.args).reverse++r).length=r.length+x.1.args.length by simp[c2];omega];have lA:∀n,bG n (pK r++x.1.args.map Tm.aH):=λn=>uQ (of_eq_true (LL r)) (bC _);have lB:∀n,bG n (pL r++x.2.args.map Tm.aH):=λn=>uQ (of_eq_true (LS r)) (bC _);have Sl:=lA 0;have Sm:=lB 0;simp only[go_sem,jC,bT (jC _).1,bT (jC _).2,bT Sl,bT Sm,lA,lB,bf,c2]
     ·rw[if_pos (.inr c2)]at h1;have xR:IntKind.i64.wrap (-1-x.2.head) = -1-x.2.head:=by rw[<-c1];exact wi
      have yB:¬0<=-1-x.2.head:=by rw[<-c1];exact hv
      have c3:¬(x.1.args.length:Int)=x.2.args.length:=by omega
      subst h1;refine aC.g ?_;simp only[go_sem,xR,yB,c1,c3,ao];refine aC.g ?_;simp only[go_sem];rw[gy];exact⟨[none],by simp[go_sem],ae _,⟨trivial,trivial⟩,trivial,rfl⟩
    ·rw[if_pos (.inl c1)]at h1;subst h1;refine aC.g ?_;simp only[go_sem,wi,hv,c1];refine aC.g ?_;simp only[go_sem];rw[gy];exact⟨[none],by simp[go_sem],ae _,⟨trivial,trivial⟩,trivial,rfl⟩
end Go.Proofs
