/- Part 46 of my own framework and of the walks of functions: Wb, Wc, Wd, We, Wf, Wg, Wh, Wi, Wj, Wk, Wl, Wm, Wn, Wo, Wp, Wq, Wr, Ws, Ya, Yb, Yc, Yd, Ye, Yf, Yg, Yh, Yi, Vf, Yj. -/
import Derived.Test.YtpgnahcljlclcaaGreatOwn45
set_option linter.unusedVariables false
set_option linter.unusedSectionVars false
set_option linter.unusedSimpArgs false
namespace Go.Proofs
open Go Go.Abs
attribute [local go_sem] Nat.reduceAdd Nat.reduceSub Nat.reduceMul Nat.reduceLeDiff Nat.reduceEqDiff Nat.reduceBEq Nat.reduceLT Nat.le_refl Int.natCast_zero Nat.sub_zero List.length_map Int.toNat_natCast Int.natCast_one Int.reduceEq Int.reduceLT Int.reduceLE Int.reduceNe Int.sub_zero Int.zero_add Int.toNat_one
def plR (L:List (List Int)):List AVal:=.nils :: pps L
theorem Yn2 (L:List (List Int)) (p:List Int):plR (L++[p])=plR L++[.ps 1 (ints p)]:=by simp [plR,pps]
theorem Zl0 {n:Nat} (L:List (List Int)):lowL n (plR L):=⟨trivial,of_eq_true (Zc9 L)⟩
theorem Zts (L:List (List Int)):(plR L).length=L.length+1:=by simp [plR,Zd2]
theorem Yr2 {F:Nat→Bool} {σ:Store} (L:List (List Int)):pTL F σ (pps ([] :: L)) (plR L):=by
 rw [show pps ([] :: L) = .ps 1 (ints []) :: pps L from rfl,plR,Zcx]
 exact ⟨by simp [go_sem,Zbq],Za1 _ _ _⟩
theorem Ymf (t:Tm):t.size≤1000000→CallEq Tryz.prog 60 [t.toA] (.ps 1 (pps t.plc)):=by
 induction t using Tm.rec_args with
 | h h ts ih =>
 intro hs
 simp only [Tm.size] at hs
 have hlen:=Zaf ts
 refine CallEq.begin (rs:=[.tmp 2]) (m:=36) 1000 Tryz.func60 rfl rfl rfl (by decide) (of_eq_true (Zc9 _)) ?_
 simp only [go_sem,Za6,Tm.head,Tm.args]
 have hplc:Tm.plc (.mk h ts)=[] :: Tm.plcL ts 0:=rfl
 have hpl:∀ i,(Tm.plcL (ts.take i) 0).length=Tm.sizes (ts.take i):=fun i=>by rw [← Zi7 (ts.take i) [] 0,Zi9];simp
 rw [hplc]
 refine EvK.loopR (ι:={i:Nat // i≤ts.length}) 1000 (fun i=>mkT 37 [(1, .ptr 0 0),(2, .nils),(3,slA 1 1 (plR (Tm.plcL (ts.take i.1) 0))),(4, .int .i64 i.1)]) (fun i=>[some (.var [.int .i64 h, .ps 2 (ts.map Tm.toA)]),slB (plR (Tm.plcL (ts.take i.1) 0))]) (fun i=>ts.length - i.1) ⟨0,by omega⟩ [] ?_ (fun _=>by simp) ?_
 ·refine Zan rfl ?_
  have e0:plR (Tm.plcL [] 0)=[.nils]:=rfl
  simp only [go_sem,e0,Zg7,Zea,Za0,Za2 (Za0 _)]
 ·rintro ⟨i,hi⟩
  by_cases hlt:(i:Int)<ts.length
  ·have hlt':i<ts.length:=by omega
   have hw:IntKind.i64.wrap ((i:Int)+1)=((i+1:Nat):Int):=by rw [Zaa (by omega)];omega
   have hg:(ts.map Tm.toA).getD i .undef=ts[i].toA:=Zai hlt'
   have hsz:=Zap ts i hlt'
   have hsn:=Zok ts i 0 hlt'
   have hsn2:=Zc6 ts i hlt'
   have hst:=Zb6 ts (i+1)
   have hbl:=hpl i
   have hc:=ih i hlt' (by omega)
   have hxl:=Yct ts[i]
   have hxp:=Yiz ts[i]
   rw [Nat.zero_add] at hsn
   generalize ts[i]=x at *
   generalize x.plc=l at *
   generalize hq:Tm.plcL (ts.take i) 0=q at *
   simp only [go_sem,hlt,hg,Za4,hq]
   refine ⟨by omega,?_⟩
   refine VCall.isoT [] (hc) (by (try simp only [Za6]);exact Za1 _ _ _) (by simp [go_sem,Za7,Za0]) ?_;rw [Zad];simp only [ite_self];refine EvK.go 1000 ?_
   simp only [go_sem]
   refine EvK.loopR (ι:={j:Nat // j≤l.length}) 1000 (fun j=>mkT 37 [(1, .ptr 0 0),(2, .nils),(3,slA 1 1 (plR (q++(l.take j.1).map (fun p=>(i:Int) :: p)))),(4, .int .i64 i),(5, .ps 1 (pps l)),(6, .int .i64 j.1)]) (fun j=>[some (.var [.int .i64 h, .ps 2 (ts.map Tm.toA)]),slB (plR (q++(l.take j.1).map (fun p=>(i:Int) :: p)))]) (fun j=>l.length - j.1) ⟨0,by omega⟩ [] ?_ (fun _=>by simp) ?_
   ·refine Zan rfl ?_
    have e0:plR (q++[])=plR q:=by rw [List.append_nil]
    have lw:lowL 0 (plR q):=Zl0 q
    simp only [go_sem,e0,Za0,Za2 (Za0 _),Za2 lw,Zl0,Za2 (of_eq_true (Zc9 l))]
   ·rintro ⟨j,hj⟩
    by_cases hjl:(j:Int)<l.length
    ·have hjl':j<l.length:=by omega
     have hwj:IntKind.i64.wrap ((j:Int)+1)=((j+1:Nat):Int):=by rw [Zaa (by omega)];omega
     have hgj:(pps l).getD j .undef = .ps 1 (ints l[j]):=by simp [pps,List.getD,hjl']
     have hb:=Zxp i l[j] (by have:=hxp _ (List.getElem_mem hjl');omega)
     have htk:List.take (j+1) l=List.take j l++[l[j]]:=by rw [List.take_add_one,List.getElem?_eq_getElem hjl'];rfl
     have hnx:plR (q++(l.take (j+1)).map (fun p=>(i:Int) :: p))=plR (q++(l.take j).map (fun p=>(i:Int) :: p))++[.ps 1 (ints ((i:Int) :: l[j]))]:=by
      rw [htk,List.map_append,← List.append_assoc,← Yn2];rfl
     have hln:(plR (q++(l.take j).map (fun p=>(i:Int) :: p))).length≤3000000:=by
      rw [Zts,List.length_append,List.length_map,List.length_take];omega
     generalize l[j]=y at *
     have lw:=Zl0 (n:=0) (q++(l.take (j+1)).map (fun p=>(i:Int) :: p))
     rw [hnx] at lw
     generalize plR (q++(l.take j).map (fun p=>(i:Int) :: p))=R at *
     simp only [go_sem,hjl,Zd2,hgj]
     refine ⟨by omega,?_⟩
     refine VCall.isoT [] (hb) (Za1 _ _ _) (by simp [go_sem,Za8]) ?_;rw [Zad];simp only [ite_self];refine EvK.go 1000 ?_
     have ho:=of_eq_true (Yk6 [(i:Int) :: y])
     rw [show pps [(i:Int) :: y]=[.ps 1 (ints ((i:Int) :: y))] from rfl] at ho
     simp only [go_sem,Zc3,ho]
     refine ⟨by omega,⟨j+1,by omega⟩,[(1,3),(3,1)],Zan rfl ?_,by simp only;omega⟩
     simp only [hnx]
     rw [Zc7 (by simp),Zc8 (by simp)]
     simp only [go_sem,hwj,Za0,Za2 (Za0 _),Za2 lw,Zab (Nat.zero_le _) lw,Zc9,Za2 (of_eq_true (Zc9 l))]
    ·have hj':j=l.length:=by omega
     subst hj'
     rw [List.take_length,← hsn]
     simp only [go_sem,hjl,Zd2]
     refine EvK.go 1000 ?_
     simp only [go_sem]
     refine ⟨⟨i+1,by omega⟩,[],Zan rfl ?_,by simp only;omega⟩
     have lw:=Zl0 (n:=0) (Tm.plcL (ts.take (i+1)) 0)
     simp only [go_sem,hw,Za0,Za2 (Za0 _),Za2 lw,Zl0]
  ·have hi':i=ts.length:=by omega
   subst hi'
   rw [List.take_length]
   simp only [go_sem,hlt]
   refine EvK.go 1000 ?_
   rw [show slA 1 1 (plR (Tm.plcL ts 0)) = .os 1 0 ((pps (Tm.plcL ts 0)).length+1) 1 from rfl,show slB (plR (Tm.plcL ts 0))=some (.row (plR (Tm.plcL ts 0)) 0) from rfl]
   simp only [go_sem]
   refine ⟨by rw [Zts,Zd2];exact Nat.le_refl _,?_⟩
   rw [List.take_of_length_le (by rw [Zts,Zd2];exact Nat.le_refl _)]
   exact Yr2 _
theorem Yj0 (ts:List Tm) (n:Nat) (x:Tm) (i:Nat) (h:i<ts.length):(ts.set n x).take (i+1)=(ts.set n x).take i++[if n=i then x else ts[i]]:=by
 rw [List.take_add_one,List.getElem?_set]
 by_cases e:n=i
 ·subst e;simp [h]
 ·simp [e,h]
set_option maxHeartbeats 1000000 in
theorem Yc3:∀ (p:List Int) (t u v:Tm),p.length≤1000000→t.size≤1000000→t.atP p=some v→CallEq Tryz.prog 169 [t.toA, .ps 1 (ints p),u.toA] (t.putP p u).toA
 | [],t,u,v,_,_,_=>by
  refine CallEq.begin (rs:=[.cell 6 48]) (m:=50) 1000 Tryz.func169 rfl rfl rfl (by decide) (Za7 _) ?_
  simp only [go_sem,Za4,Zbq,List.length_nil,Tm.putP]
  rw [Za6];exact Za1 _ _ _
 | n :: p,t,u,v,hp,ht,hv=>by
  refine CallEq.begin (rs:=[.cell 6 48]) (m:=50) 1000 Tryz.func169 rfl rfl rfl (by decide) (Za7 _) ?_
  have hal:=Zaf t.args
  have hsu:=Zau t
  have hlp:(ints p).length+1=p.length+1:=by rw [Zaj]
  have hne:¬ (((p.length+1:Nat):Int)=0):=by omega
  have hgt:(0:Int)<((p.length+1:Nat):Int):=by omega
  simp only [List.length_cons] at hp
  rw [Tm.atP] at hv
  split at hv
  ·cases hv
  split at hv
  case isFalse=>cases hv
  rename_i h0 h1
  have hpt:t.putP (n :: p) u = .mk t.head (t.args.set n.toNat ((t.args[n.toNat]).putP p u)):=by
   rw [Tm.putP,show t.args.getD n.toNat zeroT=t.args[n.toNat] by simp [List.getD,h1]]
  have hsn:=Zap t.args n.toNat h1
  have ih:=Yc3 p t.args[n.toNat] u v (by omega) (by omega) hv
  rw [hpt]
  obtain ⟨z,hz⟩:∃ z,(t.args[n.toNat]).putP p u=z:=⟨_,rfl⟩
  rw [hz] at ih ⊢
  have hsl:(t.args.set n.toNat z).length=t.args.length:=List.length_set
  simp only [go_sem,Za4,Zdd,List.length_cons,hlp,hne]
  refine EvK.loopR (ι:={i:Nat // i≤t.args.length}) 1000 (fun i=>mkT 53 [(1, .ps 1 (.int .i64 n :: ints p)),(3, .ptr 0 0),(5, .ptr 1 0),(6, .ptr 2 0),(7, .ptr 3 0),(8, .int .i64 i.1)])
   (fun i=>[some (.var [.int .i64 t.head, .ps 2 (t.args.map Tm.toA)]),some (.var [.int .i64 u.head, .ps 2 (u.args.map Tm.toA)]),some (.var [.int .i64 0, .nils]),some (.var [.int .i64 t.head,slA 4 2 (((t.args.set n.toNat z).take i.1).map Tm.toA)]),slB (((t.args.set n.toNat z).take i.1).map Tm.toA)])
   (fun i=>t.args.length - i.1) ⟨0,Nat.zero_le _⟩ [] ?_ (fun _=>by simp) ?_
  ·refine Zan rfl ?_
   simp only [go_sem,List.map_nil,Zbw,Zbp,Za0,Za8,Za2 (Za8 _),Za2 (Za0 _)]
  ·rintro ⟨i,hi⟩
   by_cases hlt:(i:Int)<t.args.length
   ·have hlt':i<t.args.length:=by omega
    have hw:IntKind.i64.wrap ((i:Int)+1)=((i+1:Nat):Int):=by rw [Zaa (by omega)];omega
    have hg:(t.args.map Tm.toA).getD i .undef=t.args[i].toA:=Zai hlt'
    have hsnc:=Yj0 t.args n.toNat z i hlt'
    have hql:((t.args.set n.toNat z).take i).length≤i:=by rw [List.length_take];omega
    have hR:∀ (y:Tm) (Q:List Tm),appOk ⟨2,true,32,[.int .i64 0, .nils], .struct⟩ [y.toA]:=fun y _=>of_eq_true (Zeb [y])
    generalize hq:(t.args.set n.toNat z).take i=q at *
    by_cases e:(i:Int)=n
    ·have e2:n.toNat=i:=by omega
     have hx:∃ x,x=t.args[i]∧t.args[n.toNat]=x:=⟨_,rfl,by simp only [e2]⟩
     obtain ⟨x,hx1,hx2⟩:=hx
     rw [hx2] at ih
     rw [← hx1] at hg
     rw [if_pos e2] at hsnc
     have e':=eq_true e
     simp only [go_sem,hlt,hlp,hgt,List.getD_cons_zero,e',hq]
     (repeat ((with_reducible refine And.intro ?_ ?_); ·omega))
     refine EvK.draw [⟨none,[],[5]⟩,⟨none,[],[5]⟩, .no, .no, .no, .no, .no, .no, .no, .no, .no,⟨some 5,[5],[]⟩,⟨some 6,[4,6],[]⟩, .no,⟨none,[3],[]⟩] 5 7 mixed rfl rfl (by decide) ?_
     have hdr:List.drop 1 (AVal.int .i64 n :: ints p)=ints p:=rfl
     have hle:(1:Int)≤((p.length+1:Nat):Int):=by omega
     have htk:List.take (p.length+1 - 1) (ints p)=ints p:=List.take_of_length_le (by rw [Zaj];omega)
     have hgn:(t.args.map Tm.toA).getD n.toNat .undef=x.toA:=by rw [e2];exact hg
     simp only [go_sem,padS,hlp,hgt,List.getD_cons_zero,hg,Za4,hdr,hle,hlt]
     rw [htk]
     (repeat ((with_reducible refine And.intro ?_ ?_); ·omega))
     refine Zaq ih (by (try simp only [Za6]);exact Za1 _ _ _) ⟨Za7 _,Za8 _,Za7 _,trivial⟩ ?_
     have h3:getS [some (Blk.var [.int .i64 t.head, .ps 2 (t.args.map Tm.toA)]),some (Blk.var [.int .i64 u.head, .ps 2 (u.args.map Tm.toA)]),some (Blk.var [.int .i64 0, .nils]),some (Blk.var [.int .i64 t.head,slA 4 2 (q.map Tm.toA)]),slB (q.map Tm.toA),some (.row [z.toA] 0),none] 4=slB (q.map Tm.toA):=rfl
     have htr:List.take 1 [z.toA]=[z.toA]:=rfl
     simp only [go_sem,Zc3 h3,hR z [],htr,Za4]
     (repeat ((with_reducible refine And.intro ?_ ?_); ·omega))
     refine EvK.go 1000 ?_
     simp only [go_sem]
     refine ⟨⟨i+1,hlt'⟩,[(4,6),(6,4)],Zan rfl ?_,by simp only;omega⟩
     simp only [hsnc]
     have lw:lowL 0 ((q++[z]).map Tm.toA):=Za0 _
     rw [List.map_append,List.map_cons,List.map_nil] at lw ⊢
     rw [Zc7 (by simp),Zc8 (by simp)]
     simp only [go_sem,hw,Za0,Za8,Za2 (Za0 _),Za2 (Za8 _),Za2 lw,Zab (Nat.zero_le _) lw]
    ·have e':=eq_false e
     rw [if_neg (by omega)] at hsnc
     obtain ⟨x,hx1⟩:∃ x,t.args[i]=x:=⟨_,rfl⟩
     rw [hx1] at hg hsnc
     simp only [go_sem,hlt,hlp,hgt,List.getD_cons_zero,e',hq]
     (repeat ((with_reducible refine And.intro ?_ ?_); ·omega))
     refine EvK.draw [⟨none,[],[5]⟩,⟨none,[],[5]⟩, .no, .no, .no, .no, .no,⟨some 5,[5],[]⟩,⟨some 6,[4,6],[]⟩, .no,⟨none,[3],[]⟩] 5 7 mixed rfl rfl (by decide) ?_
     have hR':=hR x []
     rw [Za6] at hR'
     have h3:getS [some (Blk.var [.int .i64 t.head, .ps 2 (t.args.map Tm.toA)]),some (Blk.var [.int .i64 u.head, .ps 2 (u.args.map Tm.toA)]),some (Blk.var [.int .i64 0, .nils]),some (Blk.var [.int .i64 t.head,slA 4 2 (q.map Tm.toA)]),slB (q.map Tm.toA),some (.row [.agg [.int .i64 x.head, .ps 2 (x.args.map Tm.toA)]] 0),none] 4=slB (q.map Tm.toA):=rfl
     have htr:List.take 1 [AVal.agg [.int .i64 x.head, .ps 2 (x.args.map Tm.toA)]]=[.agg [.int .i64 x.head, .ps 2 (x.args.map Tm.toA)]]:=rfl
     simp only [go_sem,padS,hg,Za4,hlt,Zc3 h3,hR',htr]
     (repeat ((with_reducible refine And.intro ?_ ?_); ·omega))
     refine EvK.go 1000 ?_
     simp only [go_sem]
     refine ⟨⟨i+1,hlt'⟩,[(4,6),(6,4)],Zan rfl ?_,by simp only;omega⟩
     simp only [hsnc]
     have lw:lowL 0 ((q++[x]).map Tm.toA):=Za0 _
     rw [List.map_append,List.map_cons,List.map_nil] at lw ⊢
     rw [Za6 x] at lw ⊢
     rw [Zc7 (by simp),Zc8 (by simp)]
     simp only [go_sem,hw,Za0,Za8,Za2 (Za0 _),Za2 (Za8 _),Za2 lw,Zab (Nat.zero_le _) lw]
   ·have hi':i=t.args.length:=by omega
    subst hi'
    rw [show List.take t.args.length (t.args.set n.toNat z)=t.args.set n.toNat z from List.take_of_length_le (by omega)]
    rw [← Zgh]
    simp only [go_sem,hlt]
    refine EvK.go 1000 ?_
    simp only [go_sem,Zcv]
theorem Yly (p:List Int) (t u v:Tm) (hp:p.length≤1000000) (ht:t.size≤1000000) (hv:t.atP p=some v):CallEq Tryz.prog 136 [t.toA, .ps 1 (ints p),u.toA] (.tup [(t.putP p u).toA, .int .i64 0]):=by
 refine CallEq.begin (rs:=[.cell 6 48, .tmp 7]) (m:=20) 1000 Tryz.func136 rfl rfl rfl (by decide) ⟨Za7 _,trivial,trivial⟩ ?_
 have h1:=Yc1 p t hp (by omega)
 have h2:=Yc3 p t u v hp ht hv
 rw [hv] at h1
 generalize t.putP p u=z at *
 simp only [go_sem,Za4]
 refine VCall.isoT [] (h1) (by (try simp only [Za6]);exact Za1 _ _ _) (by simp [go_sem,Za7,Za0,Za8]) ?_;rw [Zad];simp only [ite_self];refine EvK.go 1000 ?_
 simp only [go_sem,Option.getD_some,Option.isSome_some,Za4]
 refine VCall.isoT [] (h2) (by (try simp only [Za6]);exact Za1 _ _ _) (by simp [go_sem,Za7,Za0,Za8]) ?_;rw [Zad];simp only [ite_self];refine EvK.go 1000 ?_
 simp only [go_sem,Za4]
 rw [Za6];exact Za1 _ _ _
def ofB (bs:List Bd) (v:Int):Tm:=((bs.find? fun b=>b.v==v).map Bd.t).getD (.mk (-1 - v) [])
theorem Yk9 (bs:List Bd) (v:Int) (hv : -1000000≤v∧v≤1000000) (hl:bs.length<1000000):CallEq Tryz.prog 164 [.ps 3 (bds bs), .int .i64 v] (ofB bs v).toA:=by
 refine CallEq.begin (rs:=[.cell 4 48]) (m:=24) 1000 Tryz.func164 rfl rfl rfl (by decide) (Za7 _) ?_
 obtain ⟨Z,hZ⟩:∃ Z,ofB bs v=Z:=⟨_,rfl⟩
 rw [hZ]
 have hz0:ofB bs v=(((bs.drop 0).find? fun b=>b.v==v).map Bd.t).getD (.mk (-1 - v) []):=rfl
 simp only [go_sem]
 refine EvK.loopI (ι:={i:Nat // i≤bs.length∧(((bs.drop i).find? fun b=>b.v==v).map Bd.t).getD (.mk (-1 - v) [])=Z}) 1000 (fun q=>mkT 26 [(0, .ps 3 (bds bs)),(1, .int .i64 v),(4, .ptr 0 0),(5, .int .i64 q.1)])
  (fun _=>[some (.var [.int .i64 0, .nils])]) (fun q=>bs.length - q.1) ⟨0,Nat.zero_le _,by rw [← hz0];exact hZ⟩ ?_ (fun _=>by simp) ?_
 ·simp only [go_sem]
 ·rintro ⟨i,hi,hpre⟩
  by_cases hlt:(i:Int)<bs.length
  ·have hlt':i<bs.length:=by omega
   have hw:IntKind.i64.wrap ((i:Int)+1)=((i+1:Nat):Int):=by rw [Zaa (by omega)];omega
   have g1:=Zn8 hlt'
   rw [List.drop_eq_getElem_cons hlt',List.find?_cons] at hpre
   generalize bs[i]=b at *
   by_cases e:b.v=v
   ·have e2:(b.v==v)=true:=by simp [e]
    rw [e2] at hpre
    simp only [Option.map_some,Option.getD_some] at hpre
    subst hpre
    have e':=eq_true e
    simp only [go_sem,Zbm,hlt,g1,Zdk,e']
    (repeat ((with_reducible refine And.intro ?_ ?_); ·omega))
    refine EvK.go 1000 ?_
    simp only [go_sem]
    rw [Za6];exact Zb4 _ _ _
   ·have e2:(b.v==v)=false:=by simp [e]
    rw [e2] at hpre
    simp only [go_sem,Zbm,hlt,g1,Zdk,e,hw]
    (repeat ((with_reducible refine And.intro ?_ ?_); ·omega))
    refine ⟨⟨i+1,by omega,hpre⟩,?_,by simp only;omega⟩
    simp only [go_sem]
  ·have hi':i=bs.length:=by omega
   subst hi'
   rw [List.drop_length] at hpre
   simp only [List.find?_nil,Option.map_none,Option.getD_none] at hpre
   subst hpre
   have hv1:=Ybo v hv
   simp only [go_sem,Zbm,hlt]
   refine EvK.go 1000 ?_
   simp only [go_sem]
   refine VCall.isoT [] (hv1) (Za1 _ _ _) (by simp [go_sem,Za7]) ?_;rw [Zad];simp only [ite_self];refine EvK.go 1000 ?_
   simp only [go_sem,Za4]
   rw [Za6];exact Za1 _ _ _
mutual
def Tm.pd (bs:List Bd):Tm→Tm
 | .mk h ts=>if h<0 then ofB bs (-1 - h) else .mk h (Tm.pdL bs ts)
def Tm.pdL (bs:List Bd):List Tm→List Tm
 | []=>[]
 | t :: ts=>t.pd bs :: Tm.pdL bs ts
end
theorem Ydv (bs:List Bd):∀ ts,Tm.pdL bs ts=ts.map (Tm.pd bs)
 | []=>rfl
 | t :: ts=>by simp [Tm.pdL,Ydv bs ts]
theorem Zcz {t:Tm} (h:t.good=true) : -256≤t.head∧t.head≤1023∧t.args.length≤8∧(t.head<0→t.args=[]):=by
 obtain ⟨k,ts⟩:=t
 rw [Tm.good] at h
 simp only [Bool.and_eq_true,Bool.not_eq_true',Bool.or_eq_false_iff,decide_eq_false_iff_not,Bool.and_eq_false_iff] at h
 simp only [Tm.head,Tm.args]
 refine ⟨by omega,by omega,by omega,fun hn=>?_⟩
 rcases h.1.1.1.1 with h1 | h1
 ·exact absurd hn h1
 ·exact List.eq_nil_of_length_eq_zero (by omega)
theorem Zqt:∀ {ts:List Tm},Tm.goods ts=true→∀ t∈ts,t.good=true
 | x :: ts,h,t,ht=>by
  rw [Tm.goods,Bool.and_eq_true] at h
  rcases List.mem_cons.1 ht with rfl | ht
  ·exact h.1
  ·exact Zqt h.2 t ht
theorem Zcr {t:Tm} (h:t.good=true):∀ u∈t.args,u.good=true:=by
 obtain ⟨k,ts⟩:=t
 rw [Tm.good,Bool.and_eq_true] at h
 exact Zqt h.2
theorem Ybw (bs:List Bd) (hl:bs.length<1000000) (t:Tm):t.good=true→t.size≤1000000→CallEq Tryz.prog 133 [.ps 3 (bds bs),t.toA] (t.pd bs).toA:=by
 induction t using Tm.rec_args with
 | h h ts ih =>
 intro hg hs
 obtain ⟨g1,g2,g3,g4⟩:=Zcz hg
 have hga:=Zcr hg
 simp only [Tm.head,Tm.args] at g1 g2 g3 g4 hga
 have hsz:(Tm.mk h ts).size=1+Tm.sizes ts:=rfl
 refine CallEq.begin (rs:=[.cell 4 48]) (m:=36) 1000 Tryz.func133 rfl rfl rfl (by decide) (Za7 _) ?_
 have ha:=(Zgh h ts).symm
 rw [Tm.pd]
 by_cases hneg:h<0
 ·rw [if_pos hneg]
  have hw:IntKind.i64.wrap (-1 - h) = -1 - h:=Zaa (by omega)
  have hof:=Yk9 bs (-1 - h) (by omega) hl
  generalize ofB bs (-1 - h)=z at *
  simp only [go_sem,ha,hneg,hw]
  refine VCall.isoT [] hof (Za1 _ _ _) ⟨of_eq_true (Zbo _),trivial,trivial⟩ ?_
  rw [Zad];simp only [ite_self]
  refine EvK.go 1000 ?_
  simp only [go_sem,Za4]
  rw [Za6];exact Zb4 _ _ _
 ·rw [if_neg hneg,Ydv]
  rw [← Zgh]
  simp only [go_sem,ha,hneg]
  refine EvK.loopR (ι:={i:Nat // i≤ts.length}) 1000 (fun q=>mkT 38 [(0, .ps 3 (bds bs)),(3, .ptr 0 0),(4, .ptr 1 0),(5, .ptr 2 0),(6, .int .i64 q.1)])
   (fun q=>[some (.var [.int .i64 h, .ps 2 (ts.map Tm.toA)]),some (.var [.int .i64 0, .nils]),some (.var [.int .i64 h,slA 3 2 (((ts.take q.1).map (Tm.pd bs)).map Tm.toA)]),slB (((ts.take q.1).map (Tm.pd bs)).map Tm.toA)]) (fun q=>ts.length - q.1) ⟨0,Nat.zero_le _⟩ [] ?_ (fun _=>by simp) ?_
  ·refine Zan rfl ?_
   simp only [go_sem,List.map_nil,List.take_zero,Zbw,Zbp,Za0,Za2 (Za0 _),Za2 (of_eq_true (Zbo bs))]
  ·rintro ⟨i,hi⟩
   by_cases hlt:(i:Int)<ts.length
   ·have hlt':i<ts.length:=by omega
    have hw:IntKind.i64.wrap ((i:Int)+1)=((i+1:Nat):Int):=by rw [Zaa (by omega)];omega
    have hgi:(ts.map Tm.toA).getD i .undef=ts[i].toA:=Zai hlt'
    have hss:=Zap ts i hlt'
    have hc:=ih i hlt' (hga _ (List.getElem_mem hlt')) (by omega)
    have hsn:(ts.take (i+1)).map (Tm.pd bs)=(ts.take i).map (Tm.pd bs)++[ts[i].pd bs]:=by
     rw [List.take_add_one,List.getElem?_eq_getElem hlt',Option.toList_some,List.map_append];rfl
    have hql:((ts.take i).map (Tm.pd bs)).length≤i:=by rw [List.length_map,List.length_take];omega
    generalize ts[i]=x at *
    generalize x.pd bs=z at *
    generalize hq:(ts.take i).map (Tm.pd bs)=q at *
    have hR:appOk ⟨2,true,32,[.int .i64 0, .nils], .struct⟩ [z.toA]:=of_eq_true (Zeb [z])
    simp only [go_sem,hlt,hq]
    refine EvK.draw [⟨none,[],[4]⟩,⟨none,[],[4]⟩, .no, .no, .no, .no, .no, .no, .no,⟨some 4,[4],[]⟩,⟨some 5,[3,5],[]⟩, .no,⟨none,[2],[]⟩] 4 6 mixed rfl rfl (by decide) ?_
    simp only [go_sem,padS,hgi,Za4,hlt]
    (repeat ((with_reducible refine And.intro ?_ ?_); ·omega))
    refine Zaq hc (by (try simp only [Za6]);exact Za1 _ _ _) ⟨of_eq_true (Zbo _),Za7 _,trivial⟩ ?_
    have h3:getS [some (Blk.var [.int .i64 h, .ps 2 (ts.map Tm.toA)]),some (Blk.var [.int .i64 0, .nils]),some (Blk.var [.int .i64 h,slA 3 2 (q.map Tm.toA)]),slB (q.map Tm.toA),some (.row [z.toA] 0),none] 3=slB (q.map Tm.toA):=rfl
    have htr:List.take 1 [z.toA]=[z.toA]:=rfl
    simp only [go_sem,Zc3 h3,hR,htr,Za4]
    (repeat ((with_reducible refine And.intro ?_ ?_); ·omega))
    refine EvK.go 1000 ?_
    simp only [go_sem]
    refine ⟨⟨i+1,hlt'⟩,[(3,5),(5,3)],Zan rfl ?_,by simp only;omega⟩
    simp only [hsn]
    have lw:lowL 0 ((q++[z]).map Tm.toA):=Za0 _
    rw [List.map_append,List.map_cons,List.map_nil] at lw ⊢
    rw [Zc7 (by simp),Zc8 (by simp)]
    simp only [go_sem,hw,Za0,Za2 (Za0 _),Za2 (of_eq_true (Zbo bs)),Za2 lw,Zab (Nat.zero_le _) lw]
   ·have hi':i=ts.length:=by omega
    subst hi'
    rw [List.take_length]
    simp only [go_sem,hlt]
    refine EvK.go 1000 ?_
    simp only [go_sem,Zcv]
mutual
def gatD:Tm→Tm→List Bd→List Bd×Bool
 | .mk h ts,u,s=>if h<0 then (match s.find? (fun b=>b.v == -1 - h) with | some b=>(s,decide (b.t=u)) | none=>(s++[⟨-1 - h,u⟩],true))
  else if h≠u.head∨ts.length≠u.args.length then (s,false) else gatDL ts u.args s
def gatDL:List Tm→List Tm→List Bd→List Bd×Bool
 | [],_,s=>(s,true)
 | _ :: _,[],s=>(s,true)
 | t :: ts,u :: us,s=>if (gatD t u s).2=true then gatDL ts us (gatD t u s).1 else (s,false)
end
@[go_sem] theorem Ykh (l:List Bd):appOk ⟨3,true,40,[.int .i64 0, .int .i64 0, .nils], .struct⟩ (bds l)=True:=eq_true (by
 refine ⟨fun x hx=>?_,by decide,by decide,rfl⟩
 obtain ⟨t,_,rfl⟩:=List.mem_map.1 hx
 exact ⟨rfl,rfl⟩)
theorem Zks (a b:List Bd):bds (a++b)=bds a++bds b:=by simp [bds]
mutual
theorem Zn7:∀ (t u:Tm) (s:List Bd),(gatD t u s).1.length≤s.length+t.size
 | .mk h ts,u,s=>by
  rw [gatD,Tm.size]
  split
  ·split
   ·simp only;omega
   ·simp only [List.length_append,List.length_cons,List.length_nil];omega
  ·split
   ·simp only;omega
   ·have:=Zkj ts u.args s;omega
theorem Zkj:∀ (ts us:List Tm) (s:List Bd),(gatDL ts us s).1.length≤s.length+Tm.sizes ts
 | [],_,s=>by rw [gatDL];simp [Tm.sizes]
 | _ :: _,[],s=>by rw [gatDL];simp
 | t :: ts,u :: us,s=>by
  rw [gatDL,Tm.sizes]
  split
  ·have:=Zn7 t u s
   have:=Zkj ts us (gatD t u s).1
   omega
  ·simp only;omega
end
mutual
theorem Zjg {P:Tm→Prop} (hP:∀ t,P t→∀ u∈t.args,P u):∀ (t u:Tm) (s:List Bd),P u→(∀ b∈s,P b.t)→∀ b∈(gatD t u s).1,P b.t
 | .mk h ts,u,s,hu,hs=>by
  rw [gatD]
  split
  ·split
   ·exact hs
   ·intro b hb
    rcases List.mem_append.1 hb with hb | hb
    ·exact hs b hb
    ·rw [List.mem_singleton.1 hb];exact hu
  ·split
   ·exact hs
   ·exact Zjo hP ts u.args s (hP u hu) hs
theorem Zjo {P:Tm→Prop} (hP:∀ t,P t→∀ u∈t.args,P u):∀ (ts us:List Tm) (s:List Bd),(∀ u∈us,P u)→(∀ b∈s,P b.t)→∀ b∈(gatDL ts us s).1,P b.t
 | [],_,s,_,hs=>by rw [gatDL];exact hs
 | _ :: _,[],s,_,hs=>by rw [gatDL];exact hs
 | t :: ts,u :: us,s,hu,hs=>by
  rw [gatDL]
  have h1:=Zjg hP t u s (hu u (by simp)) hs
  split
  ·exact Zjo hP ts us _ (fun x hx=>hu x (by simp [hx])) h1
  ·exact hs
end
theorem Zm9:∀ t:Tm,t.size<1000000→∀ u∈t.args,u.size<1000000:=fun t h u hu=>by
 have h1:=Zbe hu
 have h2:=Zau t
 omega
def gaK (s:List Bd) (z:List Bd×Bool) (r:AVal) (σ':Store):Prop :=
 (z.2=true∧r = .tup [slA 0 3 (bds z.1), .bool true]∧σ'=[slB (bds z.1)]∧z.1=s)∨(z.2=true∧r = .tup [slA 4 3 (bds z.1), .bool true]∧σ'=[none,none,none,none,slB (bds z.1)]) ∨
 (z.2=false∧∃ b l,r = .tup [slA b 3 (bds l), .bool false]∧b < σ'.length∧lowSo σ'.length σ')
theorem Zm4:∀ (n:Nat) (S:Store),n≤S.length→leSo (List.replicate n none) S
 | 0,S,_=>by simp [leSo]
 | n+1,[],h=>by simp at h
 | n+1,b :: S,h=>by rw [List.replicate_succ,Zq6];exact Zm4 n S (by simpa using h)
theorem Zgu (m:Nat):∀ n:Nat,lowSo m (List.replicate n none)
 | 0=>trivial
 | n+1=>by rw [List.replicate_succ,Zmn];exact Zgu m n
theorem Zv2 {s s':List Bd} {z:List Bd×Bool} {a:Nat} {S:Store} (h:z.2=false) (ha:a<S.length):dropK (gaK s z) 1 (.tup [slA a 3 (bds s'), .bool false]) S:=by
 rw [Zaz]
 refine ⟨List.replicate (a+1) none,Zm4 _ _ ha,by simp,?_,?_, .inr (.inr ⟨h,a,s',rfl,by simp,?_⟩)⟩
 ·exact Zgu _ _
 ·simp [go_sem,Ze0]
 ·exact Zgu _ _
theorem Znx {n:Nat} (s:List Bd):lowSo n [slB (bds s)]:=by simp [go_sem]
theorem Zx8 (h:Int) (ts:List Tm) (u:Tm) (s:List Bd) (hneg:h<0) (hh : -1000000≤h) (hu:u.size<1000000) (hs:s.length<1000000) (hsz:∀ b∈s,b.t.size<1000000) :
  VCall Tryz.prog (.fn 190 [] []) [(Tm.mk h ts).toA,u.toA,slA 0 3 (bds s)] [slB (bds s)] (gaK s (gatD (.mk h ts) u s)):=by
 refine VCall.begin (rs:=[.tmp 6, .tmp 7]) (m:=85) 1000 Tryz.func190 rfl rfl rfl rfl rfl ?_
 have ha:=(Zgh h ts).symm
 have hw:IntKind.i64.wrap (-1 - h) = -1 - h:=Zaa (by omega)
 rw [gatD,if_pos hneg]
 obtain ⟨F,hF⟩:∃ F,s.find? (fun b=>b.v == -1 - h)=F:=⟨_,rfl⟩
 rw [hF]
 simp only [go_sem,ha,Za4,hneg]
 refine EvK.loopI (ι:={i:Nat // i≤s.length∧(s.drop i).find? (fun b=>b.v == -1 - h)=F}) 1000 (fun q=>mkT 88 [(2,slA 0 3 (bds s)),(3, .ptr 1 0),(4, .ptr 2 0),(6, .nils),(7, .bool false),(8, .int .i64 q.1)])
  (fun _=>[slB (bds s),some (.var [.int .i64 h, .ps 2 (ts.map Tm.toA)]),some (.var [.int .i64 u.head, .ps 2 (u.args.map Tm.toA)])]) (fun q=>s.length - q.1) ⟨0,Nat.zero_le _,hF⟩ ?_ (fun _=>by simp) ?_
 ·simp only [go_sem,Za0]
 ·rintro ⟨i,hi,hpre⟩
  by_cases hlt:(i:Int)<s.length
  ·have hlt':i<s.length:=by omega
   have hw2:IntKind.i64.wrap ((i:Int)+1)=((i+1:Nat):Int):=by rw [Zaa (by omega)];omega
   have hne:bds s≠[]:=by intro e;rw [← Zbm,e] at hlt';simp at hlt'
   have g1:=Zn8 hlt'
   have hb:=hsz _ (List.getElem_mem hlt')
   rw [List.drop_eq_getElem_cons hlt',List.find?_cons] at hpre
   generalize s[i]=b at *
   simp only [go_sem,Zec hne,Zdz hne,Zbm,hlt]
   refine EvK.draw [] 3 3 mixed rfl rfl (by decide) ?_
   simp only [go_sem,padS,Zec hne,Zdz hne,Zbm,hlt,g1,Zdk,hw]
   (repeat ((with_reducible refine And.intro ?_ ?_); ·omega))
   refine EvK.go 1000 ?_
   by_cases e:b.v = -1 - h
   ·have e2:(b.v == -1 - h)=true:=by simp [e]
    rw [e2] at hpre
    subst hpre
    have e':=eq_true e
    simp only [go_sem,e']
    refine EvK.draw [] 3 3 mixed rfl rfl (by decide) ?_
    simp only [go_sem,padS,Zec hne,Zdz hne,Zbm,hlt,g1,Zdk,hw,Za4]
    (repeat ((with_reducible refine And.intro ?_ ?_); ·omega))
    refine Zaq (Zdj b.t u (by omega) (by omega)) (by (try simp only [Za6]);exact Za1 _ _ _) (by simp [go_sem,Za7,Za0]) ?_
    simp only [go_sem]
    refine EvK.go 1000 ?_
    simp only [go_sem]
    refine EvK.go 1000 ?_
    simp only [go_sem]
    by_cases hbt:b.t=u
    ·rw [decide_eq_true hbt,Zaz]
     refine ⟨[slB (bds s)],?_,by simp,Znx s,by simp [go_sem,Zdz hne], .inl ⟨rfl,?_,rfl,rfl⟩⟩
     ·simp [Zdz hne,leSo]
     ·rw [Zec hne,Zbm]
    ·rw [decide_eq_false hbt]
     have:=Zv2 (s:=s) (s':=s) (z:=(s,false)) (a:=0) (S:=[some (Blk.row (bds s) 0),some (Blk.var [.int .i64 h, .ps 2 (ts.map Tm.toA)]),some (Blk.var [.int .i64 u.head, .ps 2 (u.args.map Tm.toA)])]) rfl (by simp)
     rw [Zec hne,Zbm] at this
     exact this
   ·have e2:(b.v == -1 - h)=false:=by simp [e]
    rw [e2] at hpre
    have e':=eq_false e
    simp only [go_sem,e',hw2,Zec hne,Zdz hne,Zbm]
    refine ⟨⟨i+1,by omega,hpre⟩,?_,by simp only;omega⟩
    simp only [go_sem,Zec hne,Zdz hne,Zbm,Za0]
  ·have hi':i=s.length:=by omega
   subst hi'
   rw [List.drop_length,List.find?_nil] at hpre
   subst hpre
   have ho:=of_eq_true (Ykh [⟨-1 - h,u⟩])
   have e1:bds [(⟨-1 - h,u⟩:Bd)]=[.agg [.int .i64 (-1 - h), .int .i64 u.head, .ps 2 (u.args.map Tm.toA)]]:=rfl
   rw [e1] at ho
   have lw:=of_eq_true (Zbo (n:=0) (s++[⟨-1 - h,u⟩]))
   rw [Zks,e1] at lw
   simp only [go_sem,Zvj,Zbm,hlt]
   refine EvK.go 1000 ?_
   simp only [go_sem,hw,Zc3,ho,Zbm]
   refine ⟨by omega,?_⟩
   rw [Zaz]
   refine ⟨[none,none,none,none,slB (bds (s++[⟨-1 - h,u⟩]))],?_,by simp,?_,?_, .inr (.inl ⟨rfl,?_,rfl⟩)⟩
   ·rw [Zks,e1,Zc8 (by simp)];simp [leSo]
   ·simp [go_sem]
   ·simp [go_sem]
   ·rw [Zks,e1,Zc7 (by simp),Zbm];rfl
def stG (i:Nat) (R bp bt:Option Blk):Store:=if i=0 then [R,none,none,none,none,bp,bt] else [none,none,none,none,R,bp,bt]
theorem GaAt (i:Nat) (hi:i=0∨i=4) (bp bt:Option Blk) (x y:Tm) (s:List Bd) (z:List Bd×Bool) {K:AVal→Store→Prop}
  (h:VCall Tryz.prog (.fn 190 [] []) [x.toA,y.toA,slA 0 3 (bds s)] [slB (bds s)] (gaK s z))
  (h1:z.2=true→z.1=s→K (.tup [slA i 3 (bds z.1), .bool true]) (stG i (slB (bds z.1)) bp bt)) (h2:z.2=true→K (.tup [slA 10 3 (bds z.1), .bool true]) [none,none,none,none,none,bp,bt,none,none,none,slB (bds z.1)])
  (h3:z.2=false→∀ b l S,7≤S.length→K (.tup [slA b 3 (bds l), .bool false]) S) :
  VCall Tryz.prog (.fn 190 [] []) [x.toA,y.toA,slA i 3 (bds s)] (stG i (slB (bds s)) bp bt) K:=by
 have hl:(stG i (slB (bds s)) bp bt).length=7:=by unfold stG;split<;>rfl
 have hrs:∀ (l:List Bd) (π:Nat→Nat),(slB (bds l)).map (renB π)=slB (bds l):=fun l π=>by
  cases hb:bds l with
  | nil=>rfl
  | cons a t =>
   have lw:=of_eq_true (Zbo (n:=0) l)
   rw [hb] at lw
   rw [Zea,Option.map_some,Zdn,Za2 lw]
 have hs:∀ b,b<1→b=0:=fun b hb=>by omega
 have hget:(stG i (slB (bds s)) bp bt)[i]? = some (slB (bds s)):=by rcases hi with rfl | rfl<;>rfl
 refine VCall.embedB (Z:=[slB (bds s)]) (f:=.fn 190 [] []) (args:=[x.toA,y.toA,slA 0 3 (bds s)]) (fun _=>i) (fun b b' h1 h2 e=>by rw [hs b h1,hs b' h2]) (fun b hb=>by rw [hl];omega) (fun b hb=>?_) (by simp [go_sem]) rfl ⟨Za7 _,Za7 _,Ze0 (by simp) _ _,trivial⟩ ?_ (by simp [go_sem]) h ?_
 ·have:b=0:=hs b hb
  subst this
  exact ⟨slB (bds s),rfl,by rw [hget,hrs]⟩
 ·simp only [renL,Zhm (Zj2 _),Zo8]
 rintro r Z' (⟨hz,rfl,rfl,e⟩ | ⟨hz,rfl,rfl⟩ | ⟨hz,b,l,rfl,hb,hlo⟩)
 ·refine ⟨by simp,by simp [go_sem],by simp [go_sem],?_⟩
  have he:embS (fun _=>i) [slB (bds s)].length [slB (bds z.1)] (stG i (slB (bds s)) bp bt)=stG i (slB (bds z.1)) bp bt:=by
   rw [e]
   unfold stG
   rcases hi with rfl | rfl<;>simp [embS,setAll,emb,hrs]
  rw [he]
  simp only [ren,renL,Zo8,emb]
  exact h1 hz e
 ·refine ⟨by simp,by simp [go_sem],by simp [go_sem],?_⟩
  have he:embS (fun _=>i) [slB (bds s)].length [none,none,none,none,slB (bds z.1)] (stG i (slB (bds s)) bp bt)=[none,none,none,none,none,bp,bt,none,none,none,slB (bds z.1)]:=by
   unfold stG
   rcases hi with rfl | rfl<;>simp [embS,setAll,emb,hrs]
  rw [he]
  have e10:emb (fun _=>i) 1 7 4=10:=rfl
  simp only [ren,renL,Zo8,hl,List.length_cons,List.length_nil,Nat.zero_add,e10]
  exact h2 hz
 ·refine ⟨by simp only [List.length_cons,List.length_nil];omega,hlo,by simp [go_sem,Ze0 hb],?_⟩
  simp only [ren,renL,Zo8]
  exact h3 hz _ _ _ (by rw [Zf3 (by simp only [List.length_cons,List.length_nil];omega),hl];omega)
theorem Zls:∀ (n:Nat) (h:Int) (ts:List Tm) (u:Tm) (s:List Bd),Tm.sizes ts<n→(Tm.mk h ts).good=true→u.size<1000000→s.length+(1+Tm.sizes ts)<1000000→(∀ b∈s,b.t.size<1000000) →
  VCall Tryz.prog (.fn 190 [] []) [(Tm.mk h ts).toA,u.toA,slA 0 3 (bds s)] [slB (bds s)] (gaK s (gatD (.mk h ts) u s))
 | 0,_,_,_,_,hn,_,_,_,_=>by omega
 | n+1,h,ts,u,s,hn,hg,hu,hs,hsz=>by
  obtain ⟨g1,g2,g3,g4⟩:=Zcz hg
  have hga:=Zcr hg
  simp only [Tm.head,Tm.args] at g1 g2 g3 g4 hga
  by_cases hneg:h<0
  ·exact Zx8 h ts u s hneg (by omega) hu (by omega) hsz
  obtain ⟨k,us,rfl⟩:∃ k us,u=Tm.mk k us:=⟨u.head,u.args,by cases u;rfl⟩
  have ha:=(Zgh h ts).symm
  have hb:=(Zgh k us).symm
  have hsu:(Tm.mk k us).size=1+Tm.sizes us:=rfl
  have hlt0:=Zaf ts
  have hlu0:=Zaf us
  refine VCall.beginK (rs:=[.tmp 6, .tmp 7]) (m:=85) Tryz.func190 rfl rfl rfl rfl rfl ?_
  have hbad:(h≠k∨ts.length≠us.length)→gatD (.mk h ts) (.mk k us) s=(s,false):=fun e=>by
   rw [gatD,if_neg hneg];exact if_pos e
  have hgo:h=k→ts.length=us.length→gatD (.mk h ts) (.mk k us) s=gatDL ts us s:=fun e1 e2=>by
   rw [gatD,if_neg hneg];exact if_neg (by simp [Tm.head,Tm.args,e1,e2])
  have hend:∀ (B1 B2:Option Blk),dropK (gaK s (s,false)) 1 (.tup [slA 0 3 (bds s), .bool false]) [slB (bds s),B1,B2]:=fun B1 B2=>Zv2 rfl (by simp)
  by_cases c1:h=k
  ·subst c1
   by_cases c2:(ts.length:Int)=us.length
   ·rw [hgo rfl (by omega)]
    refine EvK.pad 4 (by simp) (by simp [go_sem,Za7]) (Znx s) ?_
    refine EvK.go 1000 ?_
    obtain ⟨Z,hZ⟩:∃ Z,gatDL ts us s=Z:=⟨_,rfl⟩
    rw [hZ]
    simp only [go_sem,ha,hb,hneg,c2]
    refine EvK.loopR (ι:={q:Nat×List Bd×Nat // q.1≤ts.length∧(q.2.2=0∧q.2.1=s∨q.2.2=4)∧gatDL (ts.drop q.1) (us.drop q.1) q.2.1=Z∧q.2.1.length≤s.length+Tm.sizes (ts.take q.1)∧∀ b∈q.2.1,b.t.size<1000000}) 1000
     (fun q=>mkT 88 [(2,slA q.1.2.2 3 (bds q.1.2.1)),(3, .ptr 5 0),(4, .ptr 6 0),(6, .nils),(7, .bool false),(9, .int .i64 q.1.1)])
     (fun q=>stG q.1.2.2 (slB (bds q.1.2.1)) (some (.var [.int .i64 h, .ps 2 (ts.map Tm.toA)])) (some (.var [.int .i64 h, .ps 2 (us.map Tm.toA)]))) (fun q=>ts.length - q.1.1)
     ⟨(0,s,0),by omega, .inl ⟨rfl,rfl⟩,by simpa using hZ,Nat.le_add_right _ _,hsz⟩ [] ?_ (fun _=>by unfold stG;split<;>simp) ?_
    ·refine Zan rfl ?_
     unfold stG
     simp only [go_sem,Za0,Za2 (Za0 _)]
    ·rintro ⟨⟨i,s',a⟩,hi,hfl,hpre,hsl,hsz'⟩
     simp only at hi hfl hpre hsl hsz'
     by_cases hlt:(i:Int)<ts.length
     ·have hlt':i<ts.length:=by omega
      have hltu:i<us.length:=by omega
      have hltu':(i:Int)<us.length:=by omega
      have hw:IntKind.i64.wrap ((i:Int)+1)=((i+1:Nat):Int):=by rw [Zaa (by omega)];omega
      have gt1:(ts.map Tm.toA).getD i .undef=ts[i].toA:=Zai hlt'
      have gu1:(us.map Tm.toA).getD i .undef=us[i].toA:=Zai hltu
      have z1:=Zap ts i hlt'
      have z2:=Zap us i hltu
      have hsn:=Zc6 ts i hlt'
      have hst:=Zb6 ts (i+1)
      have hgx:=hga _ (List.getElem_mem hlt')
      rw [List.drop_eq_getElem_cons hlt',List.drop_eq_getElem_cons hltu,gatDL] at hpre
      generalize ts[i]=x at *
      generalize us[i]=y at *
      have hxs:=Zau x
      have hrec:VCall Tryz.prog (.fn 190 [] []) [x.toA,y.toA,slA 0 3 (bds s')] [slB (bds s')] (gaK s' (gatD x y s')):=by
       obtain ⟨h2,ts2⟩:=x
       exact Zls n h2 ts2 y s' (by simp only [Tm.args] at hxs;omega) hgx (by omega) (by simp only [Tm.args] at hxs;omega) hsz'
      have hlen2:=Zn7 x y s'
      have hszz:∀ b∈(gatD x y s').1,b.t.size<1000000:=Zjg (P:=fun t=>t.size<1000000) Zm9 x y s' (by omega) hsz'
      generalize gatD x y s'=z at *
      have hcont:∀ (a':Nat),(a'=0∧z.1=s∨a'=4)→z.2=true→(i+1≤ts.length∧(a'=0∧z.1=s∨a'=4)∧gatDL (ts.drop (i+1)) (us.drop (i+1)) z.1=Z∧z.1.length≤s.length+Tm.sizes (ts.take (i+1))∧∀ b∈z.1,b.t.size<1000000):=fun a' h1 h2=>by
       rw [h2,if_pos rfl] at hpre
       exact ⟨hlt',h1,hpre,by omega,hszz⟩
      rcases hfl with ⟨rfl,rfl⟩ | rfl
      ·unfold stG
       simp only [go_sem,hlt]
       refine EvK.drawC [] 7 7 mixed rfl rfl (by decide) 11 rfl rfl rfl rfl ?_
       simp only [go_sem,padS,gt1,gu1,Za4,hlt,hltu']
       (repeat ((with_reducible refine And.intro ?_ ?_); ·omega))
       refine EvK.go 1000 ?_
       simp only [go_sem]
       refine Zsd rfl ?_
       simp only [go_sem]
       rw [← Za6 x,← Za6 y]
       refine GaAt 0 (.inl rfl) _ _ x y s' z hrec (fun e1 e2 _=>?_) (fun e1 _=>?_) (fun e1 b l S hS _=>?_)
       ·unfold stG
        simp only [go_sem,e1]
        refine EvK.go 1000 ?_
        simp only [go_sem,hw]
        refine ⟨⟨(i+1,z.1,0),hcont 0 (.inl ⟨rfl,e2⟩) e1⟩,[],Zan rfl ?_,by simp only;omega⟩
        simp only [go_sem,hw,Za0,Za2 (Za0 _)]
       ·simp only [go_sem,e1]
        refine EvK.go 1000 ?_
        simp only [go_sem,hw]
        refine ⟨⟨(i+1,z.1,4),hcont 4 (.inr rfl) e1⟩,[(4,10),(10,4)],Zan rfl ?_,by simp only;omega⟩
        simp only [go_sem,hw,Za0,Za2 (Za0 _)]
       ·rw [e1,if_neg (by simp)] at hpre
        subst hpre
        simp only [go_sem,e1]
        refine EvK.go 1000 ?_
        simp only [go_sem]
        refine EvK.go 1000 ?_
        simp only [go_sem]
        exact Zv2 rfl (by omega)
      ·unfold stG
       simp only [go_sem,hlt]
       refine EvK.drawC [] 7 7 mixed rfl rfl (by decide) 11 rfl rfl rfl rfl ?_
       simp only [go_sem,padS,gt1,gu1,Za4,hlt,hltu']
       (repeat ((with_reducible refine And.intro ?_ ?_); ·omega))
       refine EvK.go 1000 ?_
       simp only [go_sem]
       refine Zsd rfl ?_
       simp only [go_sem]
       rw [← Za6 x,← Za6 y]
       refine GaAt 4 (.inr rfl) _ _ x y s' z hrec (fun e1 e2 _=>?_) (fun e1 _=>?_) (fun e1 b l S hS _=>?_)
       ·unfold stG
        simp only [go_sem,e1]
        refine EvK.go 1000 ?_
        simp only [go_sem,hw]
        refine ⟨⟨(i+1,z.1,4),hcont 4 (.inr rfl) e1⟩,[],Zan rfl ?_,by simp only;omega⟩
        simp only [go_sem,hw,Za0,Za2 (Za0 _)]
       ·simp only [go_sem,e1]
        refine EvK.go 1000 ?_
        simp only [go_sem,hw]
        refine ⟨⟨(i+1,z.1,4),hcont 4 (.inr rfl) e1⟩,[(4,10),(10,4)],Zan rfl ?_,by simp only;omega⟩
        simp only [go_sem,hw,Za0,Za2 (Za0 _)]
       ·rw [e1,if_neg (by simp)] at hpre
        subst hpre
        simp only [go_sem,e1]
        refine EvK.go 1000 ?_
        simp only [go_sem]
        refine EvK.go 1000 ?_
        simp only [go_sem]
        exact Zv2 rfl (by omega)
     ·have hi':i=ts.length:=by omega
      subst hi'
      rw [List.drop_length,gatDL] at hpre
      subst hpre
      rcases hfl with ⟨rfl,rfl⟩ | rfl
      ·unfold stG
       simp only [go_sem,hlt]
       refine EvK.go 1000 ?_
       simp only [go_sem]
       rw [Zaz]
       exact ⟨[slB (bds s')],by simp [leSo],by simp,Znx s',by simp [go_sem], .inl ⟨rfl,rfl,rfl,rfl⟩⟩
      ·unfold stG
       simp only [go_sem,hlt]
       refine EvK.go 1000 ?_
       simp only [go_sem]
       rw [Zaz]
       exact ⟨[none,none,none,none,slB (bds s')],by simp [leSo],by simp,by simp [go_sem],by simp [go_sem], .inr (.inl ⟨rfl,rfl,rfl⟩)⟩
   ·rw [hbad (.inr (by omega))]
    refine EvK.go 1000 ?_
    simp only [go_sem,ha,hb,hneg,c2]
    exact hend _ _
  ·rw [hbad (.inl c1)]
   refine EvK.go 1000 ?_
   simp only [go_sem,ha,hb,hneg,c1]
   exact hend _ _
theorem Yal (t:Tm) (h:t.size<1000000):CallEq Tryz.prog 189 [t.toA] (.bool (decide (t.check=0))):=by
 refine CallEq.begin (rs:=[.tmp 2]) (m:=5) 1000 Tryz.func189 rfl rfl rfl (by decide) trivial ?_
 have hc:=Zvu t (by omega)
 simp only [go_sem,Za4]
 refine VCall.isoT [] (hc) (by (try simp only [Za6]);exact Za1 _ _ _) (by simp [go_sem,Za7,Za0]) ?_;simp only [flatR,flatA,flatC,if_true];refine EvK.go 1000 ?_
 simp only [go_sem]
def rightL (l:List Tm):Bool:=l.all fun t=>decide (t.check=0)
theorem Zul (l:List Tm) (h:∀ t∈l,t.size<1000000) (hl:l.length<1000000):CallEq Tryz.prog 179 [.ps 2 (l.map Tm.toA)] (.bool (rightL l)):=by
 refine CallEq.begin (rs:=[.tmp 2]) (m:=15) 1000 Tryz.func179 rfl rfl rfl (by decide) trivial ?_
 obtain ⟨Z,hZ⟩:∃ Z,rightL l=Z:=⟨_,rfl⟩
 rw [hZ]
 simp only [go_sem]
 refine EvK.loopI (ι:={i:Nat // i≤l.length∧rightL (l.drop i)=Z}) 1000 (fun q=>mkT 16 [(0, .ps 2 (l.map Tm.toA)),(2, .bool false),(3, .int .i64 q.1)]) (fun _=>[]) (fun q=>l.length - q.1) ⟨0,Nat.zero_le _,hZ⟩ ?_ (fun _=>Nat.zero_le _) ?_
 ·simp only [go_sem,Za0]
 ·rintro ⟨i,hi,hpre⟩
  by_cases hlt:(i:Int)<l.length
  ·have hlt':i<l.length:=by omega
   have hw:IntKind.i64.wrap ((i:Int)+1)=((i+1:Nat):Int):=by rw [Zaa (by omega)];omega
   have g1:(l.map Tm.toA).getD i .undef=l[i].toA:=Zai hlt'
   have hc:=Yal l[i] (h _ (List.getElem_mem hlt'))
   rw [List.drop_eq_getElem_cons hlt',rightL,List.all_cons] at hpre
   generalize l[i]=x at *
   simp only [go_sem,hlt,g1,Za4]
   (repeat ((with_reducible refine And.intro ?_ ?_); ·omega))
   refine VCall.isoT [] (hc) (by (try simp only [Za6]);exact Za1 _ _ _) (by simp [go_sem,Za7,Za0]) ?_;simp only [flatR,flatA,flatC,if_true];refine EvK.go 1000 ?_
   by_cases e:x.check=0
   ·rw [decide_eq_true e,Bool.true_and] at hpre
    simp only [go_sem,e,hw]
    refine ⟨⟨i+1,by omega,hpre⟩,?_,by simp only;omega⟩
    simp only [go_sem,Za0]
   ·rw [decide_eq_false e,Bool.false_and] at hpre
    subst hpre
    simp only [go_sem,e]
    refine EvK.go 1000 ?_
    simp only [go_sem]
  ·have hi':i=l.length:=by omega
   subst hi'
   rw [List.drop_length] at hpre
   have hpre:true=Z:=hpre
   subst hpre
   simp only [go_sem,hlt]
   refine EvK.go 1000 ?_
   simp only [go_sem]
def gaLD (p t:List Tm):List Bd×Bool:=if (gatDL p t []).2=true then gatDL p t [] else ([],false)
theorem Zrn (p t:List Tm) (hpt:p.length=t.length) (hp:Tm.sizes p<100000) (ht:Tm.sizes t<100000) (hg:∀ x∈p,x.good=true) :
  CallEq Tryz.prog 180 [.ps 2 (p.map Tm.toA), .ps 2 (t.map Tm.toA), .nils] (.tup [.ps 3 (bds (gaLD p t).1), .bool (gaLD p t).2]):=by
 refine CallEq.beginK (rs:=[.tmp 6, .tmp 7]) (m:=31) Tryz.func180 rfl rfl rfl (by decide) ⟨of_eq_true (Zbo _),trivial,trivial⟩ ?_
 have hlp:=Zaf p
 have hlt0:=Zaf t
 refine EvK.pad 1 (Nat.le_refl _) (by simp [go_sem,Za0]) trivial ?_
 obtain ⟨Z,hZ⟩:∃ Z,gatDL p t []=Z:=⟨_,rfl⟩
 have hD:gaLD p t=if Z.2=true then Z else ([],false):=by unfold gaLD;rw [hZ]
 rw [hD]
 refine EvK.go 1000 ?_
 simp only [go_sem]
 refine EvK.loopR (ι:={q:Nat×List Bd // q.1≤p.length∧gatDL (p.drop q.1) (t.drop q.1) q.2=Z∧q.2.length≤Tm.sizes (p.take q.1)∧∀ b∈q.2,b.t.size<1000000}) 1000
  (fun q=>mkT 34 [(0, .ps 2 (p.map Tm.toA)),(1, .ps 2 (t.map Tm.toA)),(2,slA 0 3 (bds q.1.2)),(6, .nils),(7, .bool false),(8, .int .i64 q.1.1)])
  (fun q=>[slB (bds q.1.2)]) (fun q=>p.length - q.1.1) ⟨(0,[]),by omega,by simpa using hZ,by simp,fun b hb=>by cases hb⟩ [] ?_ (fun _=>by simp) ?_
 ·refine Zan rfl ?_
  simp only [go_sem,show bds []=[] from rfl,Zbw,Zbp,Za0,Za2 (Za0 _)]
 ·rintro ⟨⟨i,s⟩,hi,hpre,hsl,hsz⟩
  simp only at hi hpre hsl hsz
  by_cases hlt:(i:Int)<p.length
  ·have hlt':i<p.length:=by omega
   have hltu:i<t.length:=by omega
   have hltu':(i:Int)<t.length:=by omega
   have hw:IntKind.i64.wrap ((i:Int)+1)=((i+1:Nat):Int):=by rw [Zaa (by omega)];omega
   have gt1:(p.map Tm.toA).getD i .undef=p[i].toA:=Zai hlt'
   have gu1:(t.map Tm.toA).getD i .undef=t[i].toA:=Zai hltu
   have z1:=Zap p i hlt'
   have z2:=Zap t i hltu
   have hsn:=Zc6 p i hlt'
   have hst:=Zb6 p (i+1)
   have hgx:=hg _ (List.getElem_mem hlt')
   rw [List.drop_eq_getElem_cons hlt',List.drop_eq_getElem_cons hltu,gatDL] at hpre
   generalize p[i]=x at *
   generalize t[i]=y at *
   have hxs:=Zau x
   have hrec:VCall Tryz.prog (.fn 190 [] []) [x.toA,y.toA,slA 0 3 (bds s)] [slB (bds s)] (gaK s (gatD x y s)):=by
    obtain ⟨h2,ts2⟩:=x
    simp only [Tm.args] at hxs
    exact Zls _ h2 ts2 y s (Nat.lt_succ_self _) hgx (by omega) (by omega) hsz
   have hlen2:=Zn7 x y s
   have hszz:∀ b∈(gatD x y s).1,b.t.size<1000000:=Zjg (P:=fun t=>t.size<1000000) Zm9 x y s (by omega) hsz
   generalize gatD x y s=z at *
   simp only [go_sem,hlt]
   refine EvK.drawC [] 1 1 mixed rfl rfl (by decide) 9 rfl rfl rfl rfl ?_
   simp only [go_sem,padS,gt1,gu1,Za4,hlt,hltu']
   (repeat ((with_reducible refine And.intro ?_ ?_); ·omega))
   refine EvK.go 1000 ?_
   simp only [go_sem]
   refine Zsd rfl ?_
   simp only [go_sem]
   rw [← Za6 x,← Za6 y]
   refine hrec.mono ?_
   rintro r σ' (⟨hz,rfl,rfl,e⟩ | ⟨hz,rfl,rfl⟩ | ⟨hz,b,l,rfl,hb,hlo⟩)
   ·intro _
    rw [hz,if_pos rfl] at hpre
    simp only [go_sem]
    refine EvK.go 1000 ?_
    simp only [go_sem,hw]
    refine ⟨⟨(i+1,z.1),hlt',hpre,by simp only;omega,hszz⟩,[],Zan rfl ?_,by simp only;omega⟩
    simp only [go_sem,hw,Za0,Za2 (Za0 _)]
   ·intro _
    rw [hz,if_pos rfl] at hpre
    simp only [go_sem]
    refine EvK.go 1000 ?_
    simp only [go_sem,hw]
    refine ⟨⟨(i+1,z.1),hlt',hpre,by simp only;omega,hszz⟩,[(0,4),(4,0)],Zan rfl ?_,by simp only;omega⟩
    simp only [go_sem,hw,Za0,Za2 (Za0 _)]
   ·intro _
    rw [hz,if_neg (by simp)] at hpre
    subst hpre
    simp only [go_sem]
    refine EvK.go 1000 ?_
    simp only [go_sem]
    refine EvK.go 1000 ?_
    simp only [go_sem,show bds []=[] from rfl]
  ·have hi':i=p.length:=by omega
   subst hi'
   rw [List.drop_length,gatDL] at hpre
   subst hpre
   simp only [go_sem,hlt]
   refine EvK.go 1000 ?_
   simp only [go_sem,Zcv]
def tidyAt (s:List Bd) (v:Nat):Option Bd:=if (ofB s v).head = -1 - (v:Int) then none else some ⟨v,ofB s v⟩
def tidyL (s:List Bd) (n:Nat):List Bd:=(List.range n).filterMap (tidyAt s)
def tidyD (s:List Bd):List Bd:=tidyL s 256
theorem Yjh (s:List Bd) (hs:s.length<1000000):CallEq Tryz.prog 181 [.ps 3 (bds s)] (.ps 3 (bds (tidyD s))):=by
 refine CallEq.beginK (rs:=[.tmp 2]) (m:=24) Tryz.func181 rfl rfl rfl (by decide) (of_eq_true (Zbo _)) ?_
 refine EvK.pad 1 (Nat.le_refl _) (by simp [go_sem]) trivial ?_
 refine EvK.go 1000 ?_
 simp only [go_sem]
 refine EvK.loopR (ι:={i:Nat // i≤256}) 1000 (fun q=>mkT 25 [(0, .ps 3 (bds s)),(2, .nils),(3,slA 0 3 (bds (tidyL s q.1))),(4, .int .i64 q.1)])
  (fun q=>[slB (bds (tidyL s q.1))]) (fun q=>256 - q.1) ⟨0,Nat.zero_le _⟩ [] ?_ (fun _=>by simp) ?_
 ·refine Zan rfl ?_
  simp only [go_sem,show bds (tidyL s 0)=[] from rfl,Zbw,Zbp,Za2 (of_eq_true (Zbo s))]
 ·rintro ⟨i,hi⟩
  by_cases hlt:(i:Int)≤255
  ·have hw:IntKind.i64.wrap ((i:Int)+1)=((i+1:Nat):Int):=by rw [Zaa (by omega)];omega
   have hw1:IntKind.i64.wrap (-1 - (i:Int)) = -1 - (i:Int):=Zaa (by omega)
   have hof:=Yk9 s i (by omega) hs
   have hsn:tidyL s (i+1)=tidyL s i++(tidyAt s i).toList:=by
    unfold tidyL;rw [List.range_succ,List.filterMap_append];congr 1
   have hql:(tidyL s i).length≤i:=by
    unfold tidyL
    have:=List.length_filterMap_le (tidyAt s) (List.range i)
    simpa using this
   generalize hq:tidyL s i=q at *
   unfold tidyAt at hsn
   generalize ofB s i=x at *
   simp only [go_sem,hlt]
   refine VCall.isoT [] hof (Za1 _ _ _) ⟨of_eq_true (Zbo _),trivial,trivial⟩ ?_
   rw [Zad];simp only [ite_self]
   refine EvK.go 1000 ?_
   by_cases e:x.head = -1 - (i:Int)
   ·rw [if_pos e,Option.toList_none,List.append_nil] at hsn
    simp only [go_sem,Za4,hw1,e,hw,hq]
    refine ⟨⟨i+1,by omega⟩,[],Zan rfl ?_,by simp only;omega⟩
    simp only [hsn]
    simp only [go_sem,hw,Za2 (of_eq_true (Zbo s))]
   ·rw [if_neg e,Option.toList_some] at hsn
    have ho:=of_eq_true (Ykh [⟨(i:Int),x⟩])
    have e1:bds [(⟨(i:Int),x⟩:Bd)]=[.agg [.int .i64 i, .int .i64 x.head, .ps 2 (x.args.map Tm.toA)]]:=rfl
    rw [e1] at ho
    have lw:=of_eq_true (Zbo (n:=0) (q++[⟨(i:Int),x⟩]))
    rw [Zks,e1] at lw
    simp only [go_sem,Za4,hw1,e,hw,hq,Zc3,ho,Zbm]
    refine ⟨by omega,⟨i+1,by omega⟩,[(0,3),(3,0)],Zan rfl ?_,by simp only;omega⟩
    simp only [hsn]
    rw [Zks,e1,Zc7 (by simp),Zc8 (by simp),Zbm]
    simp only [go_sem,hw,Za2 (of_eq_true (Zbo s)),Za2 lw,Zab (Nat.zero_le _) lw]
  ·have hi':i=256:=by omega
   subst hi'
   rw [show tidyL s 256=tidyD s from rfl]
   simp only [go_sem,hlt]
   refine EvK.go 1000 ?_
   simp only [go_sem,Zcv]
def allD (p t:List Tm):List Bd×Bool×Int :=
 if rightL p=false∨rightL t=false∨p.length≠t.length then ([],false,1) else if (gaLD p t).2=false then ([],false,0) else (tidyD (gaLD p t).1,true,0)
theorem Yga (p t:List Tm) (hp:Tm.sizes p<100000) (ht:Tm.sizes t<100000) :
  CallEq Tryz.prog 163 [.ps 2 (p.map Tm.toA), .ps 2 (t.map Tm.toA)] (.tup [.ps 3 (bds (allD p t).1), .bool (allD p t).2.1, .int .i64 (allD p t).2.2]):=by
 refine CallEq.begin (rs:=[.tmp 4, .tmp 5, .tmp 6]) (m:=32) 1000 Tryz.func163 rfl rfl rfl (by decide) ⟨of_eq_true (Zbo _),trivial,trivial,trivial⟩ ?_
 have hlp:=Zaf p
 have hlt0:=Zaf t
 have r1:=Zul p (fun x hx=>by have:=Zbe hx;omega) (by omega)
 have r2:=Zul t (fun x hx=>by have:=Zbe hx;omega) (by omega)
 have e0:bds []=[]:=rfl
 simp only [go_sem]
 refine VCall.isoT [] (r1) (Za1 _ _ _) (by simp [go_sem,Za0]) ?_;simp only [flatR,flatA,flatC,if_true];refine EvK.go 1000 ?_
 cases h1:rightL p with
 | false =>
  rw [show allD p t=([],false,1) by unfold allD;rw [if_pos (.inl h1)]]
  simp only [go_sem,e0]
 | true =>
  simp only [go_sem]
  refine VCall.isoT [] (r2) (Za1 _ _ _) (by simp [go_sem,Za0]) ?_;simp only [flatR,flatA,flatC,if_true];refine EvK.go 1000 ?_
  cases h2:rightL t with
  | false =>
   rw [show allD p t=([],false,1) by unfold allD;rw [if_pos (.inr (.inl h2))]]
   simp only [go_sem,e0]
  | true =>
   by_cases h3:(p.length:Int)=t.length
   ·have hA:allD p t=if (gaLD p t).2=false then ([],false,0) else (tidyD (gaLD p t).1,true,0):=by unfold allD;rw [if_neg (by rw [h1,h2];simp;omega)]
    rw [hA]
    have hgood:∀ x∈p,x.good=true:=fun x hx=>by
     have:=List.all_eq_true.1 h1 x hx
     exact (Zbc (by simpa using this)).2.2
    have hga:=Zrn p t (by omega) hp ht hgood
    have hgl:(gaLD p t).1.length<1000000:=by
     have:=Zkj p t []
     unfold gaLD;split
     ·simp only [List.length_nil] at this;omega
     ·simp
    generalize gaLD p t=z at *
    simp only [go_sem,h3]
    refine VCall.isoT [] hga (Za1 _ _ _) ⟨Za0 _,Za0 _,trivial,trivial⟩ ?_
    rw [Zad];simp only [ite_self]
    refine EvK.go 1000 ?_
    cases h4:z.2 with
    | false =>
     rw [if_pos rfl]
     simp only [go_sem,e0]
    | true =>
     rw [if_neg (by simp)]
     have hti:=Yjh z.1 hgl
     generalize tidyD z.1=y at *
     simp only [go_sem]
     refine VCall.isoT [] hti (Za1 _ _ _) ⟨of_eq_true (Zbo _),trivial⟩ ?_
     rw [Zad];simp only [ite_self]
     refine EvK.go 1000 ?_
     simp only [go_sem]
   ·rw [show allD p t=([],false,1) by unfold allD;rw [if_pos (.inr (.inr (by omega)))]]
    simp only [go_sem,h3,e0]
theorem Yey (p t:Tm) (hp:p.size<100000) (ht:t.size<100000) :
  CallEq Tryz.prog 132 [p.toA,t.toA] (.tup [.ps 3 (bds (allD [p] [t]).1), .bool (allD [p] [t]).2.1, .int .i64 (allD [p] [t]).2.2]):=by
 refine CallEq.begin (rs:=[.tmp 4, .tmp 5, .tmp 6]) (m:=20) 1000 Tryz.func132 rfl rfl rfl (by decide) ⟨of_eq_true (Zbo _),trivial,trivial,trivial⟩ ?_
 have h:=Yga [p] [t] (by simpa [Tm.sizes] using hp) (by simpa [Tm.sizes] using ht)
 generalize allD [p] [t]=z at *
 simp only [go_sem,Za4]
 refine VCall.isoT [2,3] h ?_ ⟨Za0 _,Za0 _,trivial⟩ ?_
 ·simp only [go_sem,Zb2,Zba,List.map_cons,List.map_nil,Za6]
 generalize (if flatR (.tup [.ps 3 (bds z.1), .bool z.2.1, .int .i64 z.2.2])=true then _ else _)=S
 refine EvK.go 1000 ?_
 simp only [go_sem]
theorem Zms {t u:Tm} (h:u∈t.args):u.depth<t.depth:=by
 obtain ⟨k,ts⟩:=t
 have key:∀ ts:List Tm,u∈ts→u.depth≤Tm.depths ts:=by
  intro ts
  induction ts with
  | nil=>intro h;cases h
  | cons a ts ih =>
   intro h
   rw [Tm.depths]
   rcases List.mem_cons.1 h with rfl | h
   ·omega
   ·have:=ih h;omega
 have:=key ts h
 rw [Tm.depth];omega
theorem Zm6 {g:List Sy}:∀ {ts:List Tm},Tm.knowns g ts=true→∀ u∈ts,u.known g=true
 | a :: ts,h,u,hu=>by
  rw [Tm.knowns,Bool.and_eq_true] at h
  rcases List.mem_cons.1 hu with rfl | hu
  ·exact h.1
  ·exact Zm6 h.2 u hu
theorem Zm1 {g:List Sy}:∀ {ts:List Tm},Tm.thingsL g ts=true→∀ u∈ts,u.truth g=false∧u.things g=true
 | a :: ts,h,u,hu=>by
  rw [Tm.thingsL,Bool.and_eq_true,Bool.and_eq_true,Bool.not_eq_true'] at h
  rcases List.mem_cons.1 hu with rfl | hu
  ·exact h.1
  ·exact Zm1 h.2 u hu
theorem Ymu {g:List Sy} {t:Tm} (hs:sigOk g=true) (h1:t.check=0) (h2:t.known g=true) (h3:t.things g=true):t.term g=0:=by
 unfold Tm.term
 rw [if_neg (by rw [hs];simp),if_neg (by simp [h1]),if_neg (by rw [h2];simp),if_neg (by rw [h3];simp)]
theorem Zv3 {t:Tm} (h1:t.size≤400) (h2:t.depth≤40) (h3:t.good=true):t.check=0:=by
 unfold Tm.check
 rw [if_neg (by omega),if_neg (by omega),if_pos h3]
theorem Ych {g:List Sy} {t:Tm} (h:t.term g=0):∀ u∈t.args,u.term g=0∧u.truth g=false:=fun u hu=>by
 have hs:=Zh0 h
 obtain ⟨h1,h2,h3⟩:=Zbh h
 obtain ⟨c1,c2,c3⟩:=Zbc h1
 have z1:=Zbe hu
 have z2:=Zau t
 have z3:=Zms hu
 have z4:=Zcr c3 u hu
 obtain ⟨k,ts⟩:=t
 have hkn:Tm.knowns g ts=true:=by
  rw [Tm.known] at h2
  simp only [Bool.or_eq_true,Bool.and_eq_true,decide_eq_true_eq] at h2
  rcases h2 with h2 | h2
  ·have:=(Zcz c3).2.2.2 h2
   rw [this] at hu;cases hu
  ·exact h2.2
 obtain ⟨y1,y2⟩:=Zm1 (by rwa [Tm.things] at h3) u hu
 exact ⟨Ymu hs (Zv3 (by omega) (by omega) z4) (Zm6 hkn u hu) y2,y1⟩
theorem Zfw {g:List Sy}:∀ t,rtT g t→∀ u∈t.args,rtT g u:=fun t h u hu=>⟨(Ych h.1 u hu).1,Zcl (Zd6 h.2) u hu⟩
mutual
def Tm.cv (v:Int):Tm→Nat
 | .mk h ts=>(if h = -1 - v then 1 else 0)+Tm.cvs v ts
def Tm.cvs (v:Int):List Tm→Nat
 | []=>0
 | t :: ts=>t.cv v+Tm.cvs v ts
end
mutual
theorem Yvj (v:Int):∀ t:Tm,t.cv v≤t.size
 | .mk h ts=>by rw [Tm.cv,Tm.size];have:=Ycw v ts;split<;>omega
theorem Ycw (v:Int):∀ ts:List Tm,Tm.cvs v ts≤Tm.sizes ts
 | []=>by simp [Tm.cvs]
 | t :: ts=>by rw [Tm.cvs,Tm.sizes];have:=Yvj v t;have:=Ycw v ts;omega
end
theorem Zvf (v:Int):∀ (ts:List Tm) (i:Nat) (hi:i<ts.length),Tm.cvs v (ts.take (i+1))=Tm.cvs v (ts.take i)+(ts[i]).cv v
 | t :: ts,0,_=>by simp [Tm.cvs]
 | t :: ts,i+1,hi=>by
  simp only [List.take_succ_cons,Tm.cvs,List.getElem_cons_succ]
  rw [Zvf v ts i (by simpa using hi)];omega
mutual
def Tm.wgt (g:List Sy):Tm→Int
 | .mk h ts=>if h<0 then 1 else Tm.wgts g ts (wtOf g h)
def Tm.wgts (g:List Sy):List Tm→Int→Int
 | [],n=>n
 | t :: ts,n=>Tm.wgts g ts (n+t.wgt g)
end
theorem Zmy (g:List Sy):∀ (ts:List Tm) (n m:Int),Tm.wgts g ts (n+m)=Tm.wgts g ts n+m
 | [],n,m=>rfl
 | t :: ts,n,m=>by rw [Tm.wgts,Tm.wgts,show n+m+t.wgt g=n+t.wgt g+m by omega,Zmy g ts]
mutual
theorem Ys3 {g:List Sy} (hg:gOk g):∀ t:Tm, -(1000000*(t.size:Int))≤t.wgt g∧t.wgt g≤1000000*(t.size:Int)
 | .mk h ts=>by
  have hw:=Zn5 hg h
  rw [Tm.wgt,Tm.size]
  split
  ·omega
  ·have:=Zru hg ts (wtOf g h);omega
theorem Zru {g:List Sy} (hg:gOk g):∀ (ts:List Tm) (n:Int),n - 1000000*(Tm.sizes ts:Int)≤Tm.wgts g ts n∧Tm.wgts g ts n≤n+1000000*(Tm.sizes ts:Int)
 | [],n=>by rw [Tm.wgts];simp [Tm.sizes]
 | t :: ts,n=>by
  rw [Tm.wgts,Tm.sizes]
  have:=Ys3 hg t
  have:=Zru hg ts (n+t.wgt g)
  omega
end
theorem Zmm (t:Tm) (v:Int) (hv : 0≤v∧v≤9223372036854775807):t.size<1000000→CallEq Tryz.prog 182 [t.toA, .int .i64 v] (.int .i64 (t.cv v)):=by
 induction t using Tm.rec_args with
 | h h ts ih =>
 intro hs
 have ha:=(Zgh h ts).symm
 have hsz:(Tm.mk h ts).size=1+Tm.sizes ts:=rfl
 have hlen:=Zaf ts
 have hw0:IntKind.i64.wrap (-1 - v) = -1 - v:=Zaa (by omega)
 refine CallEq.begin (rs:=[.tmp 4]) (m:=27) 1000 Tryz.func182 rfl rfl rfl (by decide) trivial ?_
 rw [Tm.cv]
 obtain ⟨c0,hc0⟩:∃ c0:Nat,(if h = -1 - v then 1 else 0)=c0:=⟨_,rfl⟩
 rw [hc0]
 have hcl:c0≤1:=by rw [← hc0];split<;>omega
 have hstart:∀ k:Int,k=c0→True:=fun _ _=>trivial
 by_cases e:h = -1 - v
 case' pos =>
  rw [if_pos e] at hc0
  have e':=eq_true e
 case' neg =>
  rw [if_neg e] at hc0
  have e':=eq_false e
 all_goals
  simp only [go_sem,ha,hw0,e']
  refine EvK.loopI (ι:={i:Nat // i≤ts.length}) 1000 (fun q=>mkT 29 [(1, .int .i64 v),(2, .ptr 0 0),(4, .int .i64 0),(5, .int .i64 ((c0+Tm.cvs v (ts.take q.1):Nat):Int)),(6, .int .i64 q.1)])
   (fun _=>[some (.var [.int .i64 h, .ps 2 (ts.map Tm.toA)])]) (fun q=>ts.length - q.1) ⟨0,Nat.zero_le _⟩ ?_ (fun _=>by simp) ?_
  ·subst hc0
   simp only [go_sem,Za0,Tm.cvs]
  ·rintro ⟨i,hi⟩
   by_cases hlt:(i:Int)<ts.length
   ·have hlt':i<ts.length:=by omega
    have hw:IntKind.i64.wrap ((i:Int)+1)=((i+1:Nat):Int):=by rw [Zaa (by omega)];omega
    have g1:(ts.map Tm.toA).getD i .undef=ts[i].toA:=Zai hlt'
    have z1:=Zap ts i hlt'
    have hc:=ih i hlt' (by omega)
    have hsn:=Zvf v ts i hlt'
    have hb:=Ycw v (ts.take (i+1))
    have hb2:=Zb6 ts (i+1)
    generalize ts[i]=x at *
    simp only [go_sem,hlt,g1,Za4]
    (repeat ((with_reducible refine And.intro ?_ ?_); ·omega))
    refine VCall.isoT [] (hc) (by (try simp only [Za6]);exact Za1 _ _ _) (by simp [go_sem,Za7,Za0]) ?_;simp only [flatR,flatA,flatC,if_true];refine EvK.go 1000 ?_
    have hw2:IntKind.i64.wrap (((c0+Tm.cvs v (ts.take i):Nat):Int)+((x.cv v:Nat):Int))=((c0+Tm.cvs v (ts.take (i+1)):Nat):Int):=by rw [Zaa (by omega)];omega
    simp only [go_sem,hw,hw2]
    refine ⟨⟨i+1,by omega⟩,?_,by simp only;omega⟩
    simp only [go_sem,Za0,hw2]
   ·have hi':i=ts.length:=by omega
    subst hi'
    rw [List.take_length]
    simp only [go_sem,hlt]
    refine EvK.go 1000 ?_
    simp only [go_sem]
theorem Yi9 {g:List Sy} {h:Int} (h1:h.toNat<g.length):wtOf g h=(g[h.toNat]).weight:=by simp [wtOf,h1]
theorem Zrj (g:List Sy):∀ (ts:List Tm) (i:Nat) (hi:i<ts.length) (n:Int),Tm.wgts g (ts.take (i+1)) n=Tm.wgts g (ts.take i) n+(ts[i]).wgt g
 | t :: ts,0,_,n=>by simp [Tm.wgts]
 | t :: ts,i+1,hi,n=>by
  simp only [List.take_succ_cons,Tm.wgts,List.getElem_cons_succ]
  rw [Zrj g ts i (by simpa using hi)]
theorem Yna (g:List Sy) (hg:gOk g) (hgl:g.length<1000000) (t:Tm):t.inG g→t.size<1000000→CallEq Tryz.prog 183 [.ps 4 (syms g),t.toA] (.int .i64 (t.wgt g)):=by
 induction t using Tm.rec_args with
 | h h ts ih =>
 intro hin hs
 have ha:=(Zgh h ts).symm
 have hsz:(Tm.mk h ts).size=1+Tm.sizes ts:=rfl
 have hlen:=Zaf ts
 have hih:=Zfy hin
 have hia:=Zo4 hin
 simp only [Tm.head,Tm.args] at hih hia
 refine CallEq.begin (rs:=[.tmp 4]) (m:=31) 1000 Tryz.func183 rfl rfl rfl (by decide) trivial ?_
 rw [Tm.wgt]
 by_cases hneg:h<0
 ·rw [if_pos hneg]
  simp only [go_sem,ha,hneg]
 ·rw [if_neg hneg]
  have hk:h.toNat<g.length:=by omega
  have hgs:=Zb8 hk
  have hwo:=Yi9 hk
  have hwl:=Zn5 hg h
  generalize g[h.toNat]=y at *
  rw [hwo] at hwl ⊢
  obtain ⟨Z,hZ⟩:∃ Z,Tm.wgts g ts y.weight=Z:=⟨_,rfl⟩
  rw [hZ]
  simp only [go_sem,ha,hneg,Zat,hgs,Zb7]
  (repeat ((with_reducible refine And.intro ?_ ?_); ·omega))
  refine EvK.loopI (ι:={i:Nat // i≤ts.length}) 1000 (fun q=>mkT 33 [(0, .ps 4 (syms g)),(3, .ptr 0 0),(4, .int .i64 0),(5, .int .i64 (Tm.wgts g (ts.take q.1) y.weight)),(6, .int .i64 q.1)])
   (fun _=>[some (.var [.int .i64 h, .ps 2 (ts.map Tm.toA)])]) (fun q=>ts.length - q.1) ⟨0,Nat.zero_le _⟩ ?_ (fun _=>by simp) ?_
  ·simp only [go_sem,Za0,Za5,Tm.wgts]
  ·rintro ⟨i,hi⟩
   by_cases hlt:(i:Int)<ts.length
   ·have hlt':i<ts.length:=by omega
    have hw:IntKind.i64.wrap ((i:Int)+1)=((i+1:Nat):Int):=by rw [Zaa (by omega)];omega
    have g1:(ts.map Tm.toA).getD i .undef=ts[i].toA:=Zai hlt'
    have z1:=Zap ts i hlt'
    have hc:=ih i hlt' (Zj8 hia _ (List.getElem_mem hlt')) (by omega)
    have hsn:=Zrj g ts i hlt' y.weight
    have hb:=Zru hg (ts.take (i+1)) y.weight
    have hb2:=Zb6 ts (i+1)
    generalize ts[i]=x at *
    simp only [go_sem,hlt,g1,Za4]
    (repeat ((with_reducible refine And.intro ?_ ?_); ·omega))
    refine VCall.isoT [] (hc) (by (try simp only [Za6]);exact Za1 _ _ _) (by simp [go_sem,Za7,Za0,Za5]) ?_;simp only [flatR,flatA,flatC,if_true];refine EvK.go 1000 ?_
    have hw2:IntKind.i64.wrap (Tm.wgts g (ts.take i) y.weight+x.wgt g)=Tm.wgts g (ts.take (i+1)) y.weight:=by rw [Zaa (by omega)];omega
    simp only [go_sem,hw,hw2]
    refine ⟨⟨i+1,by omega⟩,?_,by simp only;omega⟩
    simp only [go_sem,Za0,Za5,hw2]
   ·have hi':i=ts.length:=by omega
    subst hi'
    rw [List.take_length,hZ]
    simp only [go_sem,hlt]
    refine EvK.go 1000 ?_
    simp only [go_sem]
theorem Zlu (g:List Sy) (t:Tm) (h:rtT g t):CallEq Tryz.prog 166 [.ps 4 (syms g),t.toA] (.tup [.int .i64 (t.wgt g), .int .i64 0]):=by
 obtain ⟨hg,hgl⟩:=Yad (Zh0 h.1)
 have hs:=(Zbj h).2
 have h1:=Zt7 g t (by omega)
 rw [h.1] at h1
 have h2:=Yna g hg (by omega) t (Zqb h).2.1 (by omega)
 refine CallEq.begin (rs:=[.tmp 4, .tmp 5]) (m:=14) 1000 Tryz.func166 rfl rfl rfl (by decide) ⟨trivial,trivial,trivial⟩ ?_
 simp only [go_sem,Za4]
 refine VCall.isoT [] (h1) (by (try simp only [Za6]);exact Za1 _ _ _) (by simp [go_sem,Za7,Za0,Za5]) ?_;simp only [flatR,flatA,flatC,if_true];refine EvK.go 1000 ?_
 simp only [go_sem]
 refine VCall.isoT [] (h2) (by (try simp only [Za6]);exact Za1 _ _ _) (by simp [go_sem,Za7,Za0,Za5]) ?_;simp only [flatR,flatA,flatC,if_true];refine EvK.go 1000 ?_
 simp only [go_sem]
def oftenD (a b:Tm):Bool:=b.vars.all fun v=>decide (b.cv v≤a.cv v)
theorem Zwo {t:Tm} (hf:t.fit):∀ v∈t.vars,0≤v∧v≤9223372036854775807:=by
 have h0:=Zkz t
 have key:∀ t:Tm,t.fit→t.allV (fun v=>v≤9223372036854775807):=by
  intro t
  induction t using Tm.rec_args with
  | h h ts ih =>
   intro hf
   refine ⟨fun hn=>?_,?_⟩
   ·have:=hf.1;unfold In64 at this;omega
   ·have hfs:=hf.2
    have:∀ l:List Tm,(∀ x∈l,x.allV (fun v=>v≤9223372036854775807))→Tm.allVs (fun v=>v≤9223372036854775807) l:=by
     intro l
     induction l with
     | nil=>intro _;trivial
     | cons a l ihl=>intro h;exact ⟨h a (by simp),ihl fun x hx=>h x (by simp [hx])⟩
    refine this ts fun x hx=>?_
    obtain ⟨i,hi,rfl⟩:=List.mem_iff_getElem.1 hx
    exact ih i hi (Zj9 hfs i hi)
 have h1:=(Zfu (p:=fun v=>v≤9223372036854775807) t).2 (key t hf)
 exact fun v hv=>⟨h0 v hv,h1 v hv⟩
theorem Zzc (a b:Tm) (ha:smT a) (hb:smT b):CallEq Tryz.prog 165 [a.toA,b.toA] (.bool (oftenD a b)):=by
 refine CallEq.begin (rs:=[.tmp 4]) (m:=26) 1000 Tryz.func165 rfl rfl rfl (by decide) trivial ?_
 have h1:=ha.2
 have h2:=hb.2
 have hv:=Ztl b hb.1 (by omega)
 have hvl:=Zf7 b
 have hvr:=Zwo hb.1
 unfold oftenD
 generalize b.vars=vs at *
 obtain ⟨Z,hZ⟩:∃ Z,(vs.all fun v=>decide (b.cv v≤a.cv v))=Z:=⟨_,rfl⟩
 rw [hZ]
 simp only [go_sem,Za4]
 refine VCall.isoT [] (hv) (by (try simp only [Za6]);exact Za1 _ _ _) (by simp [go_sem,Za7,Za0]) ?_;rw [Zad];simp only [ite_self];refine EvK.go 1000 ?_
 simp only [go_sem]
 refine EvK.loopI (ι:={i:Nat // i≤vs.length∧((vs.drop i).all fun v=>decide (b.cv v≤a.cv v))=Z}) 1000 (fun q=>mkT 28 [(2, .ptr 0 0),(3, .ptr 1 0),(4, .bool false),(5, .ps 1 (ints vs)),(6, .int .i64 q.1)])
  (fun _=>[some (.var [.int .i64 a.head, .ps 2 (a.args.map Tm.toA)]),some (.var [.int .i64 b.head, .ps 2 (b.args.map Tm.toA)])]) (fun q=>vs.length - q.1) ⟨0,Nat.zero_le _,hZ⟩ ?_ (fun _=>by simp) ?_
 ·simp only [go_sem,Za0,Za8]
 ·rintro ⟨i,hi,hpre⟩
  by_cases hlt:(i:Int)<vs.length
  ·have hlt':i<vs.length:=by omega
   have hw:IntKind.i64.wrap ((i:Int)+1)=((i+1:Nat):Int):=by rw [Zaa (by omega)];omega
   have g1:=Zbz hlt'
   have hr:=hvr _ (List.getElem_mem hlt')
   have c1:=Zmm a vs[i] hr (by omega)
   have c2:=Zmm b vs[i] hr (by omega)
   rw [List.drop_eq_getElem_cons hlt',List.all_cons] at hpre
   generalize vs[i]=v at *
   simp only [go_sem,hlt,Zaj]
   refine EvK.draw [] 2 2 mixed rfl rfl (by decide) ?_
   simp only [go_sem,padS,g1,hlt,Zaj]
   (repeat ((with_reducible refine And.intro ?_ ?_); ·omega))
   refine Zaq (c1) (by (try simp only [Za6]);exact Za1 _ _ _) (by simp [go_sem,Za7,Za0]) ?_
   simp only [go_sem,g1,hlt,Zaj]
   (repeat ((with_reducible refine And.intro ?_ ?_); ·omega))
   refine Zaq (c2) (by (try simp only [Za6]);exact Za1 _ _ _) (by simp [go_sem,Za7,Za0]) ?_
   simp only [go_sem]
   refine EvK.go 1000 ?_
   by_cases e:(a.cv v:Int)<b.cv v
   ·rw [decide_eq_false (by omega),Bool.false_and] at hpre
    subst hpre
    simp only [go_sem,e]
    refine EvK.go 1000 ?_
    simp only [go_sem]
   ·rw [decide_eq_true (by omega),Bool.true_and] at hpre
    simp only [go_sem,e,hw]
    refine ⟨⟨i+1,by omega,hpre⟩,?_,by simp only;omega⟩
    simp only [go_sem,Za0,Za8]
  ·have hi':i=vs.length:=by omega
   subst hi'
   rw [List.drop_length] at hpre
   have hpre:true=Z:=hpre
   subst hpre
   simp only [go_sem,hlt,Zaj]
   refine EvK.go 1000 ?_
   simp only [go_sem]
mutual
def Tm.gr (g:List Sy):Tm→Tm→Bool
 | .mk h ts,u=>if oftenD (.mk h ts) u=false then false else if (Tm.mk h ts).wgt g≠u.wgt g then decide (u.wgt g<(Tm.mk h ts).wgt g) else
  if h<0∨u.head<0 then false else if h≠u.head then decide (u.head<h) else Tm.grL g ts u.args
def Tm.grL (g:List Sy):List Tm→List Tm→Bool
 | [],_=>false
 | _ :: _,[]=>false
 | t :: ts,u :: us=>if t=u then Tm.grL g ts us else t.gr g u
end
theorem Ykg {g:List Sy} {t u:Tm} (ht:rtT g t) (hu:rtT g u) (h0 : 0≤t.head) (he:t.head=u.head):t.args.length=u.args.length:=by
 have h1:=Zns (Zqb ht).2.2.1 h0
 have h2:=Zns (Zqb hu).2.2.1 (by omega)
 rw [he] at h1
 omega
set_option maxHeartbeats 1000000 in
theorem Zf4 (g:List Sy):∀ (n:Nat) (t u:Tm),t.size≤n→rtT g t→rtT g u→CallEq Tryz.prog 134 [.ps 4 (syms g),t.toA,u.toA] (.bool (t.gr g u))
 | 0,t,_,h,_,_=>by have:=Zd1 t;omega
 | n+1,t,u,hn,ht,hu=>by
  refine CallEq.begin (rs:=[.tmp 6]) (m:=80) 1000 Tryz.func134 rfl rfl rfl (by decide) trivial ?_
  have st:=Zbj ht
  have su:=Zbj hu
  have ho:=Zzc t u st su
  have w1:=Zlu g t ht
  have w2:=Zlu g u hu
  have hga:∀ x y:Tm,x∈t.args→y∈u.args→CallEq Tryz.prog 134 [.ps 4 (syms g),x.toA,y.toA] (.bool (x.gr g y))∧CallEq Tryz.prog 62 [x.toA,y.toA] (.bool (decide (x=y))):=fun x y hx hy=>by
   have h1:=Zbe hx
   have h2:=Zau t
   have h3:=Zfw t ht x hx
   have h4:=Zfw u hu y hy
   exact ⟨Zf4 g n x y (by omega) h3 h4,Zdj x y (by have:=(Zbj h3).2;omega) (by have:=(Zbj h4).2;omega)⟩
  have hlen:=fun h0 he=>Ykg ht hu h0 he
  have hlt0:=Zaf t.args
  have hsa:=Zau t
  have hgr:t.gr g u=if oftenD t u=false then false else if t.wgt g≠u.wgt g then decide (u.wgt g<t.wgt g) else if t.head<0∨u.head<0 then false else if t.head≠u.head then decide (u.head<t.head) else Tm.grL g t.args u.args:=by
   cases t;rw [Tm.gr];rfl
  rw [hgr]
  have hsz:=st.2
  clear hgr st su ht hu
  generalize oftenD t u=ob at *
  generalize t.wgt g=wt at *
  generalize u.wgt g=wu at *
  simp only [go_sem,Za4]
  refine VCall.isoT [] (ho) (by (try simp only [Za6]);exact Za1 _ _ _) (by simp [go_sem,Za7,Za0]) ?_;simp only [flatR,flatA,flatC,if_true];refine EvK.go 1000 ?_
  cases ob with
  | false =>
   rw [if_pos rfl]
   simp only [go_sem]
  | true =>
   rw [if_neg (by simp)]
   simp only [go_sem,Za4]
   refine VCall.isoT [] (w1) (by (try simp only [Za6]);exact Za1 _ _ _) (by simp [go_sem,Za7,Za0,Za5]) ?_;rw [Zad];simp only [ite_self];refine EvK.go 1000 ?_
   simp only [go_sem,Za4]
   refine VCall.isoT [] (w2) (by (try simp only [Za6]);exact Za1 _ _ _) (by simp [go_sem,Za7,Za0,Za5]) ?_;rw [Zad];simp only [ite_self];refine EvK.go 1000 ?_
   by_cases e1:wt=wu
   ·rw [if_neg (fun h=>h e1)]
    subst e1
    by_cases e2:t.head<0
    ·rw [if_pos (.inl e2)]
     simp only [go_sem,e2]
    ·by_cases e3:u.head<0
     ·rw [if_pos (.inr e3)]
      simp only [go_sem,e2,e3]
     ·rw [if_neg (fun h=>h.elim e2 e3)]
      by_cases e4:t.head=u.head
      ·rw [if_neg (fun h=>h e4)]
       have hl:=hlen (by omega) e4
       obtain ⟨Z,hZ⟩:∃ Z,Tm.grL g t.args u.args=Z:=⟨_,rfl⟩
       rw [hZ]
       have e4':=eq_true e4
       simp only [go_sem,e2,e3,e4']
       refine EvK.loopI (ι:={i:Nat // i≤t.args.length∧Tm.grL g (t.args.drop i) (u.args.drop i)=Z}) 1000 (fun q=>mkT 83 [(0, .ps 4 (syms g)),(4, .ptr 0 0),(5, .ptr 1 0),(6, .bool false),(11, .int .i64 q.1)])
        (fun _=>[some (.var [.int .i64 t.head, .ps 2 (t.args.map Tm.toA)]),some (.var [.int .i64 u.head, .ps 2 (u.args.map Tm.toA)])]) (fun q=>t.args.length - q.1) ⟨0,Nat.zero_le _,hZ⟩ ?_ (fun _=>by simp) ?_
       ·simp only [go_sem,Za0,Za5]
       ·rintro ⟨i,hi,hpre⟩
        by_cases hlt:(i:Int)<t.args.length
        ·have hlt':i<t.args.length:=by omega
         have hltu:i<u.args.length:=by omega
         have hltu':(i:Int)<u.args.length:=by omega
         have hw:IntKind.i64.wrap ((i:Int)+1)=((i+1:Nat):Int):=by rw [Zaa (by omega)];omega
         have g1:(t.args.map Tm.toA).getD i .undef=t.args[i].toA:=Zai hlt'
         have g2:(u.args.map Tm.toA).getD i .undef=u.args[i].toA:=Zai hltu
         obtain ⟨c1,c2⟩:=hga _ _ (List.getElem_mem hlt') (List.getElem_mem hltu)
         rw [List.drop_eq_getElem_cons hlt',List.drop_eq_getElem_cons hltu,Tm.grL] at hpre
         generalize t.args[i]=x at *
         generalize u.args[i]=y at *
         simp only [go_sem,hlt]
         refine EvK.draw [] 2 2 mixed rfl rfl (by decide) ?_
         simp only [go_sem,padS,g1,g2,Za4,hlt,hltu']
         (repeat ((with_reducible refine And.intro ?_ ?_); ·omega))
         refine Zaq (c2) (by (try simp only [Za6]);exact Za1 _ _ _) (by simp [go_sem,Za7,Za0]) ?_
         simp only [go_sem]
         refine EvK.go 1000 ?_
         by_cases e5:x=y
         ·rw [if_pos e5] at hpre
          rw [decide_eq_true e5]
          simp only [go_sem,hw]
          refine ⟨⟨i+1,by omega,hpre⟩,?_,by simp only;omega⟩
          simp only [go_sem,Za0,Za5]
         ·rw [if_neg e5] at hpre
          rw [decide_eq_false e5]
          subst hpre
          simp only [go_sem]
          refine EvK.draw [] 2 2 mixed rfl rfl (by decide) ?_
          simp only [go_sem,padS,g1,g2,Za4,hlt,hltu']
          (repeat ((with_reducible refine And.intro ?_ ?_); ·omega))
          refine Zaq (c1) (by (try simp only [Za6]);exact Za1 _ _ _) (by simp [go_sem,Za7,Za0,Za5]) ?_
          simp only [go_sem]
          refine EvK.go 1000 ?_
          simp only [go_sem]
          refine EvK.go 1000 ?_
          simp only [go_sem]
        ·have hi':i=t.args.length:=by omega
         subst hi'
         rw [List.drop_length,Tm.grL] at hpre
         subst hpre
         simp only [go_sem,hlt]
         refine EvK.go 1000 ?_
         simp only [go_sem]
      ·rw [if_pos e4]
       have e4':=eq_false e4
       simp only [go_sem,e2,e3,e4']
   ·rw [if_pos e1]
    have e1':=eq_false e1
    simp only [go_sem,e1']
theorem Zhk (l:List Tm):lowL 0 (l.map Tm.toA):=Za0 l
theorem Ze9 (l:List Li):lowL 0 (lits l):=Za3 l
def fk (p:Nat→Bool):Nat→Nat→Option Nat
 | 0,_=>none
 | n+1,k=>if p k then some k else fk p n (k+1)
theorem Yot {p:Nat→Bool}:∀ {n k m:Nat},fk p n k=some m→k≤m∧m<k+n∧p m=true
 | n+1,k,m,h=>by
  rw [fk] at h
  split at h
  ·rename_i h1;cases h;exact ⟨Nat.le_refl _,by omega,h1⟩
  ·have:=Yot h;exact ⟨by omega,by omega,this.2.2⟩
def woP {α:Type} (same : α→α→Bool) (b:List α) (us:List Bool) (x : α) (k:Nat):Bool:=!us.getD k false&&(match b[k]? with | some y=>same x y | none=>false)
theorem Yf7 {α:Type} {same : α→α→Bool} {b:List α} {us:List Bool} {x : α} {k:Nat} (h:k<b.length):woP same b us x k=(!us.getD k false&&same x b[k]):=by simp [woP,h]
def eqT (x y:Tm):Bool:=decide (x=y)
def woL {α:Type} (same : α→α→Bool) (b:List α):List α→List Bool→List α
 | [],_=>[]
 | x :: a,us=>match fk (woP same b us x) b.length 0 with
  | none=>x :: woL same b a us
  | some k=>woL same b a (us.set k true)
def bools (l:List Bool):List AVal:=l.map .bool
theorem Zh4 (l:List Bool):(bools l).length=l.length:=by simp [bools]
theorem Zax {n:Nat} (l:List Bool):lowL n (bools l):=Zca fun _ _=>trivial
theorem Zfg {l:List Bool} {i:Nat} (h:i<l.length):(bools l).getD i .undef = .bool (l.getD i false):=by simp [bools,List.getD,h]
theorem Zp1 (l:List Bool) (i:Nat):(bools l).set i (.bool true)=bools (l.set i true):=by simp [bools,List.map_set]
theorem Zqc (n:Nat):List.replicate n (AVal.bool false)=bools (List.replicate n false):=by simp [bools]
theorem Zk9 (l:List Bool) (k:Nat) (h:k<l.length):isAggA ((bools l).getD k .undef)=false:=by rw [Zfg h];rfl
theorem Zzp (a b:List Tm) (hcall:∀ x∈a, ∀ y∈b,CallEq Tryz.prog 62 [x.toA,y.toA] (.bool (eqT x y))) (ha:a.length<1000000) (hb:b.length<1000000) :
  CallEq Tryz.prog 205 [.ps 2 (List.map Tm.toA a), .ps 2 (List.map Tm.toA b)] (.ps 2 (List.map Tm.toA (woL eqT b a (List.replicate b.length false)))):=by
 refine CallEq.beginK (rs:=[.tmp 4]) (m:=57) Tryz.func205 rfl rfl rfl (by decide) (Za0 _) ?_
 refine EvK.go 1000 ?_
 have hbi:(0:Int)≤b.length∧(b.length:Int)≤1000000000:=by omega
 have hbn:b.length≤1000000000:=by omega
 obtain ⟨Z,hZ⟩:∃ Z,woL eqT b a (List.replicate b.length false)=Z:=⟨_,rfl⟩
 rw [hZ]
 simp only [go_sem,List.length_map,hbi,Int.le_refl]
 rw [Zqc]
 refine EvK.loopR (ι:={q:Nat×List Bool×List Tm // q.1≤a.length∧q.2.1.length=b.length∧q.2.2++woL eqT b (a.drop q.1) q.2.1=Z∧q.2.2.length≤q.1}) 1000
  (fun q=>mkT 59 [(0, .ps 2 (List.map Tm.toA a)),(1, .ps 2 (List.map Tm.toA b)),(4, .nils),(5, .os 0 0 b.length 1),(6,slA 1 2 (List.map Tm.toA q.1.2.2)),(7, .int .i64 q.1.1)])
  (fun q=>[some (.row (bools q.1.2.1) 0),slB (List.map Tm.toA q.1.2.2)]) (fun q=>a.length - q.1.1) ⟨(0,List.replicate b.length false,[]),by omega,by simp,by simpa using hZ,by simp⟩ [] ?_ (fun _=>by simp) ?_
 ·refine Zan rfl ?_
  simp only [go_sem,List.map_nil,Zbw,Zbp,Za0,Za2 (Zhk a),Za2 (Zhk b),Zax,Za2 (Zax _)]
 ·rintro ⟨⟨i,us,out⟩,hi,hus,hpre,hol⟩
  simp only at hi hus hpre hol
  by_cases hlt:(i:Int)<a.length
  ·have hlt':i<a.length:=by omega
   have hw:IntKind.i64.wrap ((i:Int)+1)=((i+1:Nat):Int):=by rw [Zaa (by omega)];omega
   have g1:(List.map Tm.toA a).getD i .undef=a[i].toA:=Zai hlt'
   have hca:=hcall _ (List.getElem_mem hlt')
   rw [List.drop_eq_getElem_cons hlt',woL] at hpre
   generalize a[i]=x at *
   obtain ⟨p,hp⟩:∃ p:Nat→Bool,woP eqT b us x=p:=⟨_,rfl⟩
   rw [hp] at hpre
   obtain ⟨F,hF⟩:∃ F,fk p b.length 0=F:=⟨_,rfl⟩
   rw [hF] at hpre
   have hlo:lowL 0 (List.map Tm.toA out):=Za0 _
   simp only [go_sem,hlt,List.length_map]
   refine EvK.loopR (ι:={q:Nat×Option Nat // q.1≤b.length∧match q.2 with | none=>fk p (b.length - q.1) q.1=F | some k=>F=some k}) 1000
    (fun q=>mkT 59 [(0, .ps 2 (List.map Tm.toA a)),(1, .ps 2 (List.map Tm.toA b)),(4, .nils),(5, .os 0 0 b.length 1),(6,slA 1 2 (List.map Tm.toA out)),(7, .int .i64 i),(8, .int .i64 (match q.1.2 with | none=>-1 | some k=>(k:Int))),(9, .int .i64 q.1.1)])
    (fun _=>[some (.row (bools us) 0),slB (List.map Tm.toA out)]) (fun q=>b.length - q.1.1) ⟨(0,none),Nat.zero_le _,by simpa using hF⟩ [] ?_ (fun _=>by simp) ?_
   ·refine Zan rfl ?_
    simp only [go_sem,Za0,Za2 (Zhk a),Za2 (Zhk b),Za2 hlo,Zax,Za2 (Zax _)]
   ·rintro ⟨⟨k,at_⟩,hk,hfk⟩
    simp only at hk hfk
    cases at_ with
    | some k0 =>
     simp only at hfk
     subst hfk
     obtain ⟨f1,f2,f3⟩:=Yot hF
     have hk0:¬ ((k0:Int)<0):=by omega
     have hk1:(k0:Int)<b.length:=by omega
     have hml:=Zk9 us k0 (by omega)
     have hbl:=Zh4 us
     have hbg:=Zfg (l:=us) (i:=k0) (by omega)
     by_cases hkl:(k:Int)<b.length
     case' pos=>simp only [go_sem,hkl,List.length_map,hk0]
     case' neg=>simp only [go_sem,hkl,List.length_map,hk0]
     all_goals
      refine EvK.go 1000 ?_
      simp only [go_sem,hk0,hk1,hbl,hus,hml,hbg]
      (repeat ((with_reducible refine And.intro ?_ ?_); ·omega))
      refine ⟨⟨(i+1,us.set k0 true,out),hlt',by simpa using hus,hpre,by simp only;omega⟩,[],Zan rfl ?_,by simp only;omega⟩
      simp only [go_sem,hw,Zp1,Za0,Za2 (Zhk a),Za2 (Zhk b),Za2 hlo,Zax,Za2 (Zax _)]
    | none =>
     simp only at hfk
     by_cases hkl:(k:Int)<b.length
     ·have hkl':k<b.length:=by omega
      have hw2:IntKind.i64.wrap ((k:Int)+1)=((k+1:Nat):Int):=by rw [Zaa (by omega)];omega
      have g2:(List.map Tm.toA b).getD k .undef=b[k].toA:=Zai hkl'
      have hc:=hca _ (List.getElem_mem hkl')
      have hpk:p k=(!us.getD k false&&eqT x b[k]):=by rw [← hp];exact Yf7 hkl'
      rw [show b.length - k=(b.length - (k+1))+1 by omega,fk] at hfk
      generalize b[k]=y at *
      have hbl:=Zh4 us
      have hbg:=Zfg (l:=us) (i:=k) (by omega)
      simp only [go_sem,hkl,List.length_map]
      refine EvK.draw [] 2 2 mixed rfl rfl (by decide) ?_
      cases hu:us.getD k false with
      | true =>
       rw [hu] at hpk hbg
       simp only [go_sem,padS,hbl,hus,hkl,hbg]
       (repeat ((with_reducible refine And.intro ?_ ?_); ·omega))
       have hpk:p k=false:=hpk
       rw [hpk,if_neg (by simp)] at hfk
       refine EvK.go 1000 ?_
       simp only [go_sem,hw2]
       refine ⟨⟨(k+1,none),by simp only;omega,hfk⟩,[],Zan rfl ?_,by simp only;omega⟩
       simp only [go_sem,hw2,Za0,Za2 (Zhk a),Za2 (Zhk b),Za2 hlo,Zax,Za2 (Zax _)]
      | false =>
       rw [hu] at hpk hbg
       have hpk:p k=eqT x y:=hpk
       rw [hpk] at hfk
       simp only [go_sem,padS,hbl,hus,hkl,hbg,g1,g2,Za4,hlt,List.length_map]
       (repeat ((with_reducible refine And.intro ?_ ?_); ·omega))
       refine Zaq hc (by (try simp only [Za6]);exact Za1 _ _ _) ⟨Za7 _,Za7 _,trivial⟩ ?_
       cases hs:eqT x y with
       | true =>
        rw [hs,if_pos rfl] at hfk
        simp only [go_sem]
        refine EvK.go 1000 ?_
        simp only [go_sem,hw2]
        refine ⟨⟨(k+1,some k),by simp only;omega,hfk.symm⟩,[],Zan rfl ?_,by simp only;omega⟩
        simp only [go_sem,hw2,Za0,Za2 (Zhk a),Za2 (Zhk b),Za2 hlo,Zax,Za2 (Zax _)]
       | false =>
        rw [hs,if_neg (by simp)] at hfk
        simp only [go_sem]
        refine EvK.go 1000 ?_
        simp only [go_sem,hw2]
        refine ⟨⟨(k+1,none),by simp only;omega,hfk⟩,[],Zan rfl ?_,by simp only;omega⟩
        simp only [go_sem,hw2,Za0,Za2 (Zhk a),Za2 (Zhk b),Za2 hlo,Zax,Za2 (Zax _)]
     ·have hkb:k=b.length:=by omega
      subst hkb
      rw [Nat.sub_self,fk] at hfk
      subst hfk
      have ho:=(by have:=of_eq_true (Zeb [x]);rw [List.map_cons,List.map_nil,Za6] at this;exact this:appOk ⟨2,true,32,[.int .i64 0, .nils], .struct⟩ [.agg [.int .i64 x.head, .ps 2 (x.args.map Tm.toA)]])
      have lw:lowL 0 (List.map Tm.toA (out++[x])):=Za0 _
      rw [List.map_append,List.map_cons,List.map_nil,Za6 x] at lw
      simp only [go_sem,hkl,List.length_map]
      refine EvK.go 1000 ?_
      simp only [go_sem,g1,Za4,hlt,Zc3,ho,List.length_map]
      (repeat ((with_reducible refine And.intro ?_ ?_); ·omega))
      refine ⟨⟨(i+1,us,out++[x]),hlt',hus,by rw [List.append_assoc];exact hpre,by simp only [List.length_append,List.length_cons,List.length_nil];omega⟩,[(1,3),(3,1)],Zan rfl ?_,by simp only;omega⟩
      simp only [List.map_append,List.map_cons,List.map_nil,Za6 x]
      rw [Zc7 (by simp),Zc8 (by simp)]
      simp only [go_sem,hw,Za0,Za2 (Zhk a),Za2 (Zhk b),Za2 lw,Zab (Nat.zero_le _) lw,Zax,Za2 (Zax _),List.length_map]
  ·have hi':i=a.length:=by omega
   subst hi'
   rw [List.drop_length,woL,List.append_nil] at hpre
   subst hpre
   simp only [go_sem,hlt,List.length_map]
   refine EvK.go 1000 ?_
   simp only [go_sem,Zcv]
theorem Ya1 (q:List Li) (x:Li):lits (q++[x])=lits q++[.agg [.bool x.neg, .int .i64 x.l.head, .ps 2 (x.l.args.map Tm.toA), .int .i64 x.r.head, .ps 2 (x.r.args.map Tm.toA)]]:=by
 simp only [lits,List.map_append,List.map_cons,List.map_nil];rfl
def ovD {α:Type} (gt : α→α→Bool) (a b:List α):Bool:=(b.all fun y=>a.any fun x=>gt x y)&&decide (0<a.length)
theorem Znq {α:Type} (gt : α→α→Bool) (a b:List α) (y : α):ovD gt a (y :: b)=((a.any fun x=>gt x y)&&ovD gt a b):=by simp [ovD,Bool.and_assoc]
theorem Yde (a b:List Li) (hcall:∀ x∈a, ∀ y∈b,CallEq Tryz.prog 184 [x.toA,y.toA] (.bool (sameL x y))) (ha:a.length<1000000) (hb:b.length<1000000) :
  CallEq Tryz.prog 167 [.ps 5 (lits a), .ps 5 (lits b)] (.ps 5 (lits (woL sameL b a (List.replicate b.length false)))):=by
 refine CallEq.beginK (rs:=[.tmp 4]) (m:=57) Tryz.func167 rfl rfl rfl (by decide) (Za3 _) ?_
 refine EvK.go 1000 ?_
 have hbi:(0:Int)≤b.length∧(b.length:Int)≤1000000000:=by omega
 have hbn:b.length≤1000000000:=by omega
 obtain ⟨Z,hZ⟩:∃ Z,woL sameL b a (List.replicate b.length false)=Z:=⟨_,rfl⟩
 rw [hZ]
 simp only [go_sem,Zac,hbi,Int.le_refl]
 rw [Zqc]
 refine EvK.loopR (ι:={q:Nat×List Bool×List Li // q.1≤a.length∧q.2.1.length=b.length∧q.2.2++woL sameL b (a.drop q.1) q.2.1=Z∧q.2.2.length≤q.1}) 1000
  (fun q=>mkT 59 [(0, .ps 5 (lits a)),(1, .ps 5 (lits b)),(4, .nils),(5, .os 0 0 b.length 1),(6,slA 1 5 (lits q.1.2.2)),(7, .int .i64 q.1.1)])
  (fun q=>[some (.row (bools q.1.2.1) 0),slB (lits q.1.2.2)]) (fun q=>a.length - q.1.1) ⟨(0,List.replicate b.length false,[]),by omega,by simp,by simpa using hZ,by simp⟩ [] ?_ (fun _=>by simp) ?_
 ·refine Zan rfl ?_
  simp only [go_sem,show lits []=[] from rfl,Zbw,Zbp,Za3,Za2 (Ze9 a),Za2 (Ze9 b),Zax,Za2 (Zax _)]
 ·rintro ⟨⟨i,us,out⟩,hi,hus,hpre,hol⟩
  simp only at hi hus hpre hol
  by_cases hlt:(i:Int)<a.length
  ·have hlt':i<a.length:=by omega
   have hw:IntKind.i64.wrap ((i:Int)+1)=((i+1:Nat):Int):=by rw [Zaa (by omega)];omega
   have g1:(lits a).getD i .undef=a[i].toA:=Zai hlt'
   have hca:=hcall _ (List.getElem_mem hlt')
   rw [List.drop_eq_getElem_cons hlt',woL] at hpre
   generalize a[i]=x at *
   obtain ⟨p,hp⟩:∃ p:Nat→Bool,woP sameL b us x=p:=⟨_,rfl⟩
   rw [hp] at hpre
   obtain ⟨F,hF⟩:∃ F,fk p b.length 0=F:=⟨_,rfl⟩
   rw [hF] at hpre
   have hlo:lowL 0 (lits out):=Za3 _
   simp only [go_sem,hlt,Zac]
   refine EvK.loopR (ι:={q:Nat×Option Nat // q.1≤b.length∧match q.2 with | none=>fk p (b.length - q.1) q.1=F | some k=>F=some k}) 1000
    (fun q=>mkT 59 [(0, .ps 5 (lits a)),(1, .ps 5 (lits b)),(4, .nils),(5, .os 0 0 b.length 1),(6,slA 1 5 (lits out)),(7, .int .i64 i),(8, .int .i64 (match q.1.2 with | none=>-1 | some k=>(k:Int))),(9, .int .i64 q.1.1)])
    (fun _=>[some (.row (bools us) 0),slB (lits out)]) (fun q=>b.length - q.1.1) ⟨(0,none),Nat.zero_le _,by simpa using hF⟩ [] ?_ (fun _=>by simp) ?_
   ·refine Zan rfl ?_
    simp only [go_sem,Za3,Za2 (Ze9 a),Za2 (Ze9 b),Za2 hlo,Zax,Za2 (Zax _)]
   ·rintro ⟨⟨k,at_⟩,hk,hfk⟩
    simp only at hk hfk
    cases at_ with
    | some k0 =>
     simp only at hfk
     subst hfk
     obtain ⟨f1,f2,f3⟩:=Yot hF
     have hk0:¬ ((k0:Int)<0):=by omega
     have hk1:(k0:Int)<b.length:=by omega
     have hml:=Zk9 us k0 (by omega)
     have hbl:=Zh4 us
     have hbg:=Zfg (l:=us) (i:=k0) (by omega)
     by_cases hkl:(k:Int)<b.length
     case' pos=>simp only [go_sem,hkl,Zac,hk0]
     case' neg=>simp only [go_sem,hkl,Zac,hk0]
     all_goals
      refine EvK.go 1000 ?_
      simp only [go_sem,hk0,hk1,hbl,hus,hml,hbg]
      (repeat ((with_reducible refine And.intro ?_ ?_); ·omega))
      refine ⟨⟨(i+1,us.set k0 true,out),hlt',by simpa using hus,hpre,by simp only;omega⟩,[],Zan rfl ?_,by simp only;omega⟩
      simp only [go_sem,hw,Zp1,Za3,Za2 (Ze9 a),Za2 (Ze9 b),Za2 hlo,Zax,Za2 (Zax _)]
    | none =>
     simp only at hfk
     by_cases hkl:(k:Int)<b.length
     ·have hkl':k<b.length:=by omega
      have hw2:IntKind.i64.wrap ((k:Int)+1)=((k+1:Nat):Int):=by rw [Zaa (by omega)];omega
      have g2:(lits b).getD k .undef=b[k].toA:=Zai hkl'
      have hc:=hca _ (List.getElem_mem hkl')
      have hpk:p k=(!us.getD k false&&sameL x b[k]):=by rw [← hp];exact Yf7 hkl'
      rw [show b.length - k=(b.length - (k+1))+1 by omega,fk] at hfk
      generalize b[k]=y at *
      have hbl:=Zh4 us
      have hbg:=Zfg (l:=us) (i:=k) (by omega)
      simp only [go_sem,hkl,Zac]
      refine EvK.draw [] 2 2 mixed rfl rfl (by decide) ?_
      cases hu:us.getD k false with
      | true =>
       rw [hu] at hpk hbg
       simp only [go_sem,padS,hbl,hus,hkl,hbg]
       (repeat ((with_reducible refine And.intro ?_ ?_); ·omega))
       have hpk:p k=false:=hpk
       rw [hpk,if_neg (by simp)] at hfk
       refine EvK.go 1000 ?_
       simp only [go_sem,hw2]
       refine ⟨⟨(k+1,none),by simp only;omega,hfk⟩,[],Zan rfl ?_,by simp only;omega⟩
       simp only [go_sem,hw2,Za3,Za2 (Ze9 a),Za2 (Ze9 b),Za2 hlo,Zax,Za2 (Zax _)]
      | false =>
       rw [hu] at hpk hbg
       have hpk:p k=sameL x y:=hpk
       rw [hpk] at hfk
       simp only [go_sem,padS,hbl,hus,hkl,hbg,g1,g2,Zao,hlt,Zac]
       (repeat ((with_reducible refine And.intro ?_ ?_); ·omega))
       refine Zaq hc (Za1 _ _ _) ⟨Zbr _,Zbr _,trivial⟩ ?_
       cases hs:sameL x y with
       | true =>
        rw [hs,if_pos rfl] at hfk
        simp only [go_sem]
        refine EvK.go 1000 ?_
        simp only [go_sem,hw2]
        refine ⟨⟨(k+1,some k),by simp only;omega,hfk.symm⟩,[],Zan rfl ?_,by simp only;omega⟩
        simp only [go_sem,hw2,Za3,Za2 (Ze9 a),Za2 (Ze9 b),Za2 hlo,Zax,Za2 (Zax _)]
       | false =>
        rw [hs,if_neg (by simp)] at hfk
        simp only [go_sem]
        refine EvK.go 1000 ?_
        simp only [go_sem,hw2]
        refine ⟨⟨(k+1,none),by simp only;omega,hfk⟩,[],Zan rfl ?_,by simp only;omega⟩
        simp only [go_sem,hw2,Za3,Za2 (Ze9 a),Za2 (Ze9 b),Za2 hlo,Zax,Za2 (Zax _)]
     ·have hkb:k=b.length:=by omega
      subst hkb
      rw [Nat.sub_self,fk] at hfk
      subst hfk
      have ho:=(by have:=of_eq_true (Ya7 [x]);exact this:appOk ⟨5,true,72,[.bool false, .int .i64 0, .nils, .int .i64 0, .nils], .struct⟩ [.agg [.bool x.neg, .int .i64 x.l.head, .ps 2 (x.l.args.map Tm.toA), .int .i64 x.r.head, .ps 2 (x.r.args.map Tm.toA)]])
      have lw:lowL 0 (lits (out++[x])):=Za3 _
      rw [Ya1] at lw
      simp only [go_sem,hkl,Zac]
      refine EvK.go 1000 ?_
      simp only [go_sem,g1,Zao,hlt,Zc3,ho,Zac]
      (repeat ((with_reducible refine And.intro ?_ ?_); ·omega))
      refine ⟨⟨(i+1,us,out++[x]),hlt',hus,by rw [List.append_assoc];exact hpre,by simp only [List.length_append,List.length_cons,List.length_nil];omega⟩,[(1,3),(3,1)],Zan rfl ?_,by simp only;omega⟩
      simp only [Ya1]
      rw [Zc7 (by simp),Zc8 (by simp)]
      simp only [go_sem,hw,Za3,Za2 (Ze9 a),Za2 (Ze9 b),Za2 lw,Zab (Nat.zero_le _) lw,Zax,Za2 (Zax _),Zac]
  ·have hi':i=a.length:=by omega
   subst hi'
   rw [List.drop_length,woL,List.append_nil] at hpre
   subst hpre
   simp only [go_sem,hlt,Zac]
   refine EvK.go 1000 ?_
   simp only [go_sem,Zcv]
theorem Yc7 (g:List Sy) (a b:List Tm) (gt:Tm→Tm→Bool) (hcall:∀ x∈a, ∀ y∈b,CallEq Tryz.prog 134 [.ps 4 (syms g),x.toA,y.toA] (.bool (gt x y))) (ha:a.length<1000000) (hb:b.length<1000000) :
  CallEq Tryz.prog 206 [.ps 4 (syms g), .ps 2 (List.map Tm.toA a), .ps 2 (List.map Tm.toA b)] (.bool (ovD (fun x y=>gt x y) a b)):=by
 refine CallEq.begin (rs:=[.tmp 6]) (m:=37) 1000 Tryz.func206 rfl rfl rfl (by decide) trivial ?_
 obtain ⟨Z,hZ⟩:∃ Z,ovD (fun x y=>gt x y) a b=Z:=⟨_,rfl⟩
 rw [hZ]
 simp only [go_sem]
 refine EvK.loopI (ι:={i:Nat // i≤b.length∧ovD (fun x y=>gt x y) a (b.drop i)=Z}) 1000 (fun q=>mkT 40 [(0, .ps 4 (syms g)),(1, .ps 2 (List.map Tm.toA a)),(2, .ps 2 (List.map Tm.toA b)),(6, .bool false),(7, .int .i64 q.1)]) (fun _=>[]) (fun q=>b.length - q.1) ⟨0,Nat.zero_le _,hZ⟩ ?_ (fun _=>Nat.zero_le _) ?_
 ·simp only [go_sem,Za0,Za5]
 ·rintro ⟨i,hi,hpre⟩
  by_cases hlt:(i:Int)<b.length
  ·have hlt':i<b.length:=by omega
   have hw:IntKind.i64.wrap ((i:Int)+1)=((i+1:Nat):Int):=by rw [Zaa (by omega)];omega
   have g1:(List.map Tm.toA b).getD i .undef=b[i].toA:=Zai hlt'
   have hca:=fun x hx=>hcall x hx _ (List.getElem_mem hlt')
   rw [List.drop_eq_getElem_cons hlt',Znq] at hpre
   generalize b[i]=y at *
   obtain ⟨A,hA⟩:∃ A,(a.any fun x=>gt x y)=A:=⟨_,rfl⟩
   rw [hA] at hpre
   simp only [go_sem,hlt,List.length_map]
   refine EvK.loopI (ι:={q:Nat×Bool // q.1≤a.length∧(q.2||(a.drop q.1).any fun x=>gt x y)=A}) 1000 (fun q=>mkT 40 [(0, .ps 4 (syms g)),(1, .ps 2 (List.map Tm.toA a)),(2, .ps 2 (List.map Tm.toA b)),(6, .bool false),(7, .int .i64 i),(8, .bool q.1.2),(9, .int .i64 q.1.1)]) (fun _=>[]) (fun q=>a.length - q.1.1) ⟨(0,false),Nat.zero_le _,by simpa using hA⟩ ?_ (fun _=>Nat.zero_le _) ?_
   ·simp only [go_sem,Za0,Za5]
   ·rintro ⟨⟨k,an⟩,hk,hpk⟩
    simp only at hk hpk
    by_cases hkl:(k:Int)<a.length
    ·have hkl':k<a.length:=by omega
     have hw2:IntKind.i64.wrap ((k:Int)+1)=((k+1:Nat):Int):=by rw [Zaa (by omega)];omega
     have g2:(List.map Tm.toA a).getD k .undef=a[k].toA:=Zai hkl'
     have hc:=hca _ (List.getElem_mem hkl')
     rw [List.drop_eq_getElem_cons hkl',List.any_cons] at hpk
     generalize a[k]=x at *
     simp only [go_sem,hkl,List.length_map]
     refine EvK.draw [] 0 0 mixed rfl rfl (by decide) ?_
     cases an with
     | true =>
      simp only [go_sem,padS]
      refine EvK.go 1000 ?_
      simp only [go_sem,hw2]
      refine ⟨⟨(k+1,true),by simp only;omega,by simpa using hpk⟩,?_,by simp only;omega⟩
      simp only [go_sem,Za0,Za5]
     | false =>
      rw [Bool.false_or] at hpk
      simp only [go_sem,padS,g1,g2,Za4,hlt,hkl,List.length_map]
      (repeat ((with_reducible refine And.intro ?_ ?_); ·omega))
      refine Zaq hc (by (try simp only [Za6]);exact Za1 _ _ _) ⟨Za5 _,Za7 _,Za7 _,trivial⟩ ?_
      simp only [go_sem]
      refine EvK.go 1000 ?_
      simp only [go_sem,hw2]
      refine ⟨⟨(k+1,gt x y),by simp only;omega,hpk⟩,?_,by simp only;omega⟩
      simp only [go_sem,Za0,Za5]
    ·have hka:k=a.length:=by omega
     subst hka
     rw [List.drop_length,List.any_nil,Bool.or_false] at hpk
     subst hpk
     simp only [go_sem,hkl,List.length_map]
     refine EvK.go 1000 ?_
     cases an with
     | true =>
      rw [Bool.true_and] at hpre
      simp only [go_sem,hw]
      refine ⟨⟨i+1,by omega,hpre⟩,?_,by simp only;omega⟩
      simp only [go_sem,Za0,Za5]
     | false =>
      rw [Bool.false_and] at hpre
      subst hpre
      simp only [go_sem]
      refine EvK.go 1000 ?_
      simp only [go_sem]
  ·have hi':i=b.length:=by omega
   subst hi'
   rw [List.drop_length] at hpre
   have hpre:decide (0<a.length)=Z:=by rw [← hpre];simp [ovD]
   subst hpre
   simp only [go_sem,hlt,List.length_map]
   refine EvK.go 1000 ?_
   simp only [go_sem,List.length_map]
   congr 1;simp
theorem Ycs (g:List Sy) (a b:List Li) (gt:Li→Li→Int) (hcall:∀ x∈a, ∀ y∈b,CallEq Tryz.prog 185 [.ps 4 (syms g),x.toA,y.toA] (.int .i64 (gt x y))) (ha:a.length<1000000) (hb:b.length<1000000) :
  CallEq Tryz.prog 168 [.ps 4 (syms g), .ps 5 (lits a), .ps 5 (lits b)] (.bool (ovD (fun x y=>decide (gt x y=1)) a b)):=by
 refine CallEq.begin (rs:=[.tmp 6]) (m:=38) 1000 Tryz.func168 rfl rfl rfl (by decide) trivial ?_
 obtain ⟨Z,hZ⟩:∃ Z,ovD (fun x y=>decide (gt x y=1)) a b=Z:=⟨_,rfl⟩
 rw [hZ]
 simp only [go_sem]
 refine EvK.loopI (ι:={i:Nat // i≤b.length∧ovD (fun x y=>decide (gt x y=1)) a (b.drop i)=Z}) 1000 (fun q=>mkT 41 [(0, .ps 4 (syms g)),(1, .ps 5 (lits a)),(2, .ps 5 (lits b)),(6, .bool false),(7, .int .i64 q.1)]) (fun _=>[]) (fun q=>b.length - q.1) ⟨0,Nat.zero_le _,hZ⟩ ?_ (fun _=>Nat.zero_le _) ?_
 ·simp only [go_sem,Za3,Za5]
 ·rintro ⟨i,hi,hpre⟩
  by_cases hlt:(i:Int)<b.length
  ·have hlt':i<b.length:=by omega
   have hw:IntKind.i64.wrap ((i:Int)+1)=((i+1:Nat):Int):=by rw [Zaa (by omega)];omega
   have g1:(lits b).getD i .undef=b[i].toA:=Zai hlt'
   have hca:=fun x hx=>hcall x hx _ (List.getElem_mem hlt')
   rw [List.drop_eq_getElem_cons hlt',Znq] at hpre
   generalize b[i]=y at *
   obtain ⟨A,hA⟩:∃ A,(a.any fun x=>decide (gt x y=1))=A:=⟨_,rfl⟩
   rw [hA] at hpre
   simp only [go_sem,hlt,Zac]
   refine EvK.loopI (ι:={q:Nat×Bool // q.1≤a.length∧(q.2||(a.drop q.1).any fun x=>decide (gt x y=1))=A}) 1000 (fun q=>mkT 41 [(0, .ps 4 (syms g)),(1, .ps 5 (lits a)),(2, .ps 5 (lits b)),(6, .bool false),(7, .int .i64 i),(8, .bool q.1.2),(9, .int .i64 q.1.1)]) (fun _=>[]) (fun q=>a.length - q.1.1) ⟨(0,false),Nat.zero_le _,by simpa using hA⟩ ?_ (fun _=>Nat.zero_le _) ?_
   ·simp only [go_sem,Za3,Za5]
   ·rintro ⟨⟨k,an⟩,hk,hpk⟩
    simp only at hk hpk
    by_cases hkl:(k:Int)<a.length
    ·have hkl':k<a.length:=by omega
     have hw2:IntKind.i64.wrap ((k:Int)+1)=((k+1:Nat):Int):=by rw [Zaa (by omega)];omega
     have g2:(lits a).getD k .undef=a[k].toA:=Zai hkl'
     have hc:=hca _ (List.getElem_mem hkl')
     rw [List.drop_eq_getElem_cons hkl',List.any_cons] at hpk
     generalize a[k]=x at *
     simp only [go_sem,hkl,Zac]
     refine EvK.draw [] 0 0 mixed rfl rfl (by decide) ?_
     cases an with
     | true =>
      simp only [go_sem,padS]
      refine EvK.go 1000 ?_
      simp only [go_sem,hw2]
      refine ⟨⟨(k+1,true),by simp only;omega,by simpa using hpk⟩,?_,by simp only;omega⟩
      simp only [go_sem,Za3,Za5]
     | false =>
      rw [Bool.false_or] at hpk
      simp only [go_sem,padS,g1,g2,Zao,hlt,hkl,Zac]
      (repeat ((with_reducible refine And.intro ?_ ?_); ·omega))
      refine Zaq hc (Za1 _ _ _) ⟨Za5 _,Zbr _,Zbr _,trivial⟩ ?_
      simp only [go_sem]
      refine EvK.go 1000 ?_
      simp only [go_sem,hw2]
      refine ⟨⟨(k+1,decide (gt x y=1)),by simp only;omega,hpk⟩,?_,by simp only;omega⟩
      simp only [go_sem,Za3,Za5]
    ·have hka:k=a.length:=by omega
     subst hka
     rw [List.drop_length,List.any_nil,Bool.or_false] at hpk
     subst hpk
     simp only [go_sem,hkl,Zac]
     refine EvK.go 1000 ?_
     cases an with
     | true =>
      rw [Bool.true_and] at hpre
      simp only [go_sem,hw]
      refine ⟨⟨i+1,by omega,hpre⟩,?_,by simp only;omega⟩
      simp only [go_sem,Za3,Za5]
     | false =>
      rw [Bool.false_and] at hpre
      subst hpre
      simp only [go_sem]
      refine EvK.go 1000 ?_
      simp only [go_sem]
  ·have hi':i=b.length:=by omega
   subst hi'
   rw [List.drop_length] at hpre
   have hpre:decide (0<a.length)=Z:=by rw [← hpre];simp [ovD]
   subst hpre
   simp only [go_sem,hlt,Zac]
   refine EvK.go 1000 ?_
   simp only [go_sem,Zac]
   congr 1;simp
theorem Ycv (a b:Li) (ha:okS a) (hb:okS b):CallEq Tryz.prog 191 [a.toA,b.toA] (.bool (equalL a b)):=by
 refine CallEq.begin (rs:=[.tmp 4]) (m:=29) 1000 Tryz.func191 rfl rfl rfl (by decide) trivial ?_
 obtain ⟨a1,a2⟩:=ha
 obtain ⟨b1,b2⟩:=hb
 have s1:=Zdj a.l b.l (by omega) (by omega)
 have s2:=Zdj a.r b.r (by omega) (by omega)
 have s3:=Zdj a.l b.r (by omega) (by omega)
 have s4:=Zdj a.r b.l (by omega) (by omega)
 unfold equalL
 generalize decide (a.l=b.l)=p1 at *
 generalize decide (a.r=b.r)=p2 at *
 generalize decide (a.l=b.r)=p3 at *
 generalize decide (a.r=b.l)=p4 at *
 simp only [go_sem,Zao]
 refine VCall.isoT [] (s1) (by (try simp only [Za6]);exact Za1 _ _ _) (by simp [go_sem,Za7,Za0]) ?_;simp only [flatR,flatA,flatC,if_true];refine EvK.go 1000 ?_
 cases p1
 ·simp only [go_sem]
  refine VCall.isoT [] (s3) (by (try simp only [Za6]);exact Za1 _ _ _) (by simp [go_sem,Za7,Za0]) ?_;simp only [flatR,flatA,flatC,if_true];refine EvK.go 1000 ?_
  cases p3
  ·simp only [go_sem,Bool.false_and,Bool.or_false]
  ·simp only [go_sem]
   refine VCall.isoT [] (s4) (by (try simp only [Za6]);exact Za1 _ _ _) (by simp [go_sem,Za7,Za0]) ?_;simp only [flatR,flatA,flatC,if_true];refine EvK.go 1000 ?_
   simp only [go_sem,Bool.false_and,Bool.false_or,Bool.true_and]
 ·simp only [go_sem]
  refine VCall.isoT [] (s2) (by (try simp only [Za6]);exact Za1 _ _ _) (by simp [go_sem,Za7,Za0]) ?_;simp only [flatR,flatA,flatC,if_true];refine EvK.go 1000 ?_
  cases p2
  ·simp only [go_sem]
   refine VCall.isoT [] (s3) (by (try simp only [Za6]);exact Za1 _ _ _) (by simp [go_sem,Za7,Za0]) ?_;simp only [flatR,flatA,flatC,if_true];refine EvK.go 1000 ?_
   cases p3
   ·simp only [go_sem,Bool.false_and,Bool.and_false,Bool.or_false]
   ·simp only [go_sem]
    refine VCall.isoT [] (s4) (by (try simp only [Za6]);exact Za1 _ _ _) (by simp [go_sem,Za7,Za0]) ?_;simp only [flatR,flatA,flatC,if_true];refine EvK.go 1000 ?_
    simp only [go_sem,Bool.and_false,Bool.false_or,Bool.true_and]
  ·simp only [go_sem,Bool.and_true,Bool.true_or]
theorem Zqw (a b:Li) (ha:okS a) (hb:okS b):CallEq Tryz.prog 184 [a.toA,b.toA] (.bool (sameL a b)):=by
 refine CallEq.begin (rs:=[.tmp 4]) (m:=13) 1000 Tryz.func184 rfl rfl rfl (by decide) trivial ?_
 have h:=Ycv a b ha hb
 unfold sameL
 simp only [go_sem,Zao]
 have hd:decide (a.neg=b.neg)=(a.neg==b.neg):=rfl
 rw [hd]
 cases c:a.neg==b.neg
 ·simp only [go_sem,c,Bool.false_and]
 ·simp only [go_sem,c]
  refine VCall.isoT [] h (Za1 _ _ _) ⟨Zbr _,Zbr _,trivial⟩ ?_
  simp only [flatR,flatA,flatC,if_true]
  refine EvK.go 1000 ?_
  simp only [go_sem,Bool.true_and]
theorem Yb7 (l:Li):CallEq Tryz.prog 193 [l.toA] (.ps 2 ((rowL l).map Tm.toA)):=by
 refine CallEq.begin (rs:=[.tmp 2]) (m:=18) 1000 Tryz.func193 rfl rfl rfl (by decide) (Za0 _) ?_
 unfold rowL
 cases h:l.neg
 ·simp only [go_sem,Zao,h,Bool.false_eq_true,if_false,List.map_cons,List.map_nil]
  rw [Za6 l.l,Za6 l.r]
  exact ⟨Zb4 _ _ _,Zb4 _ _ _⟩
 ·simp only [go_sem,Zao,h,if_true,List.map_cons,List.map_nil]
  rw [Za6 l.l,Za6 l.r]
  repeat (first | exact Zb4 _ _ _ | exact Za1 _ _ _ | refine ⟨Zb4 _ _ _,?_⟩)
def msC {α:Type} (same gt : α→α→Bool) (a b:List α):Int :=
 if (woL same b a (List.replicate b.length false)).length+(woL same a b (List.replicate a.length false)).length=0 then 0 else
 if ovD gt (woL same b a (List.replicate b.length false)) (woL same a b (List.replicate a.length false))=true then 1 else
 if ovD gt (woL same a b (List.replicate a.length false)) (woL same b a (List.replicate b.length false))=true then -1 else 2
theorem Zie {α:Type} (same : α→α→Bool) (b:List α):∀ (a:List α) (us:List Bool), ∀ x∈woL same b a us,x∈a
 | [],us,x,h=>by rw [woL] at h;cases h
 | y :: a,us,x,h=>by
  rw [woL] at h
  split at h
  ·rcases List.mem_cons.1 h with rfl | h
   ·simp
   ·exact List.mem_cons_of_mem _ (Zie same b a us x h)
  ·exact List.mem_cons_of_mem _ (Zie same b a _ x h)
theorem Zhy {α:Type} (same : α→α→Bool) (b:List α):∀ (a:List α) (us:List Bool),(woL same b a us).length≤a.length
 | [],us=>by rw [woL];exact Nat.le_refl _
 | y :: a,us=>by
  rw [woL]
  split
  ·have:=Zhy same b a us;simp only [List.length_cons];omega
  ·rename_i k _;have:=Zhy same b a (us.set k true);simp only [List.length_cons];omega
theorem Yiu (g:List Sy) (a b:List Tm) (ha:∀ x∈a,rtT g x) (hb:∀ x∈b,rtT g x) (hla:a.length<400000) (hlb:b.length<400000) :
  CallEq Tryz.prog 192 [.ps 4 (syms g), .ps 2 (a.map Tm.toA), .ps 2 (b.map Tm.toA)] (.int .i64 (msC eqT (Tm.gr g) a b)):=by
 refine CallEq.begin (rs:=[.tmp 6]) (m:=26) 1000 Tryz.func192 rfl rfl rfl (by decide) trivial ?_
 have hsm:∀ x y:Tm,rtT g x→rtT g y→CallEq Tryz.prog 62 [x.toA,y.toA] (.bool (eqT x y)):=fun x y hx hy=>Zdj x y (by have:=(Zbj hx).2;omega) (by have:=(Zbj hy).2;omega)
 have w1:=Zzp a b (fun x hx y hy=>hsm x y (ha x hx) (hb y hy)) (by omega) (by omega)
 have w2:=Zzp b a (fun x hx y hy=>hsm x y (hb x hx) (ha y hy)) (by omega) (by omega)
 have m1:=Zie eqT b a (List.replicate b.length false)
 have m2:=Zie eqT a b (List.replicate a.length false)
 have l1:=Zhy eqT b a (List.replicate b.length false)
 have l2:=Zhy eqT a b (List.replicate a.length false)
 unfold msC
 generalize woL eqT b a (List.replicate b.length false)=x at *
 generalize woL eqT a b (List.replicate a.length false)=y at *
 have o1:=Yc7 g x y (Tm.gr g) (fun u hu v hv=>Zf4 g _ u v (Nat.le_refl _) (ha u (m1 u hu)) (hb v (m2 v hv))) (by omega) (by omega)
 have o2:=Yc7 g y x (Tm.gr g) (fun u hu v hv=>Zf4 g _ u v (Nat.le_refl _) (hb u (m2 u hu)) (ha v (m1 v hv))) (by omega) (by omega)
 have hw:IntKind.i64.wrap ((x.length:Int)+y.length)=(x.length:Int)+y.length:=Zaa (by omega)
 have e1:(ovD (fun x y=>Tm.gr g x y) x y)=ovD (Tm.gr g) x y:=rfl
 have e2:(ovD (fun x y=>Tm.gr g x y) y x)=ovD (Tm.gr g) y x:=rfl
 rw [e1] at o1
 rw [e2] at o2
 simp only [go_sem]
 refine VCall.isoT [] (w1) (by (try simp only [Za6]);exact Za1 _ _ _) (by simp [go_sem,Za7,Za0]) ?_;rw [Zad];simp only [ite_self];refine EvK.go 1000 ?_
 simp only [go_sem]
 refine VCall.isoT [] (w2) (by (try simp only [Za6]);exact Za1 _ _ _) (by simp [go_sem,Za7,Za0]) ?_;rw [Zad];simp only [ite_self];refine EvK.go 1000 ?_
 by_cases h0:x.length+y.length=0
 ·rw [if_pos h0]
  have h0':(x.length:Int)+y.length=0:=by omega
  have hw0:IntKind.i64.wrap 0=0:=Zaa (by omega)
  simp only [go_sem,hw,h0',hw0]
 ·rw [if_neg h0]
  have h0':¬ (x.length:Int)+y.length=0:=by omega
  simp only [go_sem,hw,h0']
  refine VCall.isoT [] (o1) (Za1 _ _ _) (by simp [go_sem,Za5,Za0]) ?_;simp only [flatR,flatA,flatC,if_true];refine EvK.go 1000 ?_
  cases h1:ovD (Tm.gr g) x y with
  | true=>simp only [go_sem]
  | false =>
   simp only [go_sem]
   refine VCall.isoT [] (o2) (Za1 _ _ _) (by simp [go_sem,Za5,Za0]) ?_;simp only [flatR,flatA,flatC,if_true];refine EvK.go 1000 ?_
   cases h2:ovD (Tm.gr g) y x with
   | true=>simp only [go_sem]
   | false=>simp only [go_sem]
def st9 (g:List Sy) (a b:Li):Int:=msC eqT (Tm.gr g) (rowL a) (rowL b)
def rtL (g:List Sy) (l:Li):Prop:=rtT g l.l∧rtT g l.r
theorem Znh {g:List Sy} {l:Li} (h:rtL g l):∀ x∈rowL l,rtT g x:=fun x hx=>by
 rcases Zmw hx with rfl | rfl
 ·exact h.1
 ·exact h.2
theorem Zmi (g:List Sy) (a b:Li) (ha:rtL g a) (hb:rtL g b):CallEq Tryz.prog 185 [.ps 4 (syms g),a.toA,b.toA] (.int .i64 (st9 g a b)):=by
 refine CallEq.begin (rs:=[.tmp 6]) (m:=10) 1000 Tryz.func185 rfl rfl rfl (by decide) trivial ?_
 have r1:=Yb7 a
 have r2:=Yb7 b
 have l1:=Zji a
 have l2:=Zji b
 have h:=Yiu g (rowL a) (rowL b) (Znh ha) (Znh hb) (by omega) (by omega)
 unfold st9
 generalize msC eqT (Tm.gr g) (rowL a) (rowL b)=z at *
 simp only [go_sem,Zao]
 refine EvK.draw [] 2 2 mixed rfl rfl (by decide) ?_
 simp only [go_sem,padS]
 refine Zaq r1 (Za1 _ _ _) ⟨Zbr _,trivial⟩ ?_
 simp only [go_sem]
 refine Zaq r2 (Za1 _ _ _) ⟨Zbr _,trivial⟩ ?_
 simp only [go_sem]
 refine Zaq h (Za1 _ _ _) ⟨Za5 _,Za0 _,Za0 _,trivial⟩ ?_
 simp only [go_sem]
 refine EvK.go 1000 ?_
 simp only [go_sem]
def st10 (g:List Sy) (c d:List Li):Int:=msC sameL (fun x y=>decide (st9 g x y=1)) c d
theorem Ztr (g:List Sy) (a b:List Li) (ha:∀ x∈a,rtL g x) (hb:∀ x∈b,rtL g x) (hla:a.length<400000) (hlb:b.length<400000) :
  CallEq Tryz.prog 135 [.ps 4 (syms g), .ps 5 (lits a), .ps 5 (lits b)] (.int .i64 (st10 g a b)):=by
 refine CallEq.begin (rs:=[.tmp 6]) (m:=26) 1000 Tryz.func135 rfl rfl rfl (by decide) trivial ?_
 have hok:∀ x:Li,rtL g x→okS x:=fun x hx=>by
  have h1:=(Zbj hx.1).2
  have h2:=(Zbj hx.2).2
  exact ⟨by omega,by omega⟩
 have w1:=Yde a b (fun x hx y hy=>Zqw x y (hok x (ha x hx)) (hok y (hb y hy))) (by omega) (by omega)
 have w2:=Yde b a (fun x hx y hy=>Zqw x y (hok x (hb x hx)) (hok y (ha y hy))) (by omega) (by omega)
 have m1:=Zie sameL b a (List.replicate b.length false)
 have m2:=Zie sameL a b (List.replicate a.length false)
 have l1:=Zhy sameL b a (List.replicate b.length false)
 have l2:=Zhy sameL a b (List.replicate a.length false)
 unfold st10 msC
 generalize woL sameL b a (List.replicate b.length false)=x at *
 generalize woL sameL a b (List.replicate a.length false)=y at *
 have o1:=Ycs g x y (st9 g) (fun u hu v hv=>Zmi g u v (ha u (m1 u hu)) (hb v (m2 v hv))) (by omega) (by omega)
 have o2:=Ycs g y x (st9 g) (fun u hu v hv=>Zmi g u v (hb u (m2 u hu)) (ha v (m1 v hv))) (by omega) (by omega)
 have hw:IntKind.i64.wrap ((x.length:Int)+y.length)=(x.length:Int)+y.length:=Zaa (by omega)
 generalize hz1:ovD (fun x y=>decide (st9 g x y=1)) x y=z1 at *
 generalize hz2:ovD (fun x y=>decide (st9 g x y=1)) y x=z2 at *
 simp only [go_sem]
 refine VCall.isoT [] (w1) (Za1 _ _ _) (by simp [go_sem,Za3]) ?_;rw [Zad];simp only [ite_self];refine EvK.go 1000 ?_
 simp only [go_sem]
 refine VCall.isoT [] (w2) (Za1 _ _ _) (by simp [go_sem,Za3]) ?_;rw [Zad];simp only [ite_self];refine EvK.go 1000 ?_
 by_cases h0:x.length+y.length=0
 ·rw [if_pos h0]
  have h0':(x.length:Int)+y.length=0:=by omega
  have hw0:IntKind.i64.wrap 0=0:=Zaa (by omega)
  simp only [go_sem,hw,h0',hw0,Zac]
 ·rw [if_neg h0]
  have h0':¬ (x.length:Int)+y.length=0:=by omega
  simp only [go_sem,hw,h0',Zac]
  refine VCall.isoT [] (o1) (Za1 _ _ _) (by simp [go_sem,Za5,Za3]) ?_;simp only [flatR,flatA,flatC,if_true];refine EvK.go 1000 ?_
  cases z1 with
  | true=>simp only [go_sem]
  | false =>
   simp only [go_sem]
   refine VCall.isoT [] (o2) (Za1 _ _ _) (by simp [go_sem,Za5,Za3]) ?_;simp only [flatR,flatA,flatC,if_true];refine EvK.go 1000 ?_
   cases z2 with
   | true=>simp only [go_sem]
   | false=>simp only [go_sem]
def sideD (l:Li) (n:Int):Tm×Tm:=if n=0 then (l.l,l.r) else (l.r,l.l)
theorem Znt (l:Li) (n:Int):CallEq Tryz.prog 59 [l.toA, .int .i64 n] (.tup [(sideD l n).1.toA,(sideD l n).2.toA]):=by
 refine CallEq.begin (rs:=[.cell 4 48, .cell 5 48]) (m:=14) 1000 Tryz.func59 rfl rfl rfl (by decide) ⟨Za7 _,Za7 _,trivial⟩ ?_
 unfold sideD
 by_cases h:n=0
 ·rw [if_pos h]
  simp only [go_sem,Zao,h]
  refine EvK.draw [.no, .no,⟨none,[],[1]⟩,⟨none,[],[1]⟩,⟨none,[1],[]⟩,⟨none,[2],[]⟩] 3 3 mixed rfl rfl (by decide) ?_
  simp only [go_sem,padS]
  refine EvK.go 1000 ?_
  simp only [go_sem]
  rw [Za6 l.l,Za6 l.r]
  exact ⟨Zb4 _ _ _,Zb4 _ _ _⟩
 ·rw [if_neg h]
  simp only [go_sem,Zao,h]
  refine EvK.draw [.no, .no,⟨none,[],[1]⟩,⟨none,[],[1]⟩,⟨none,[1],[]⟩,⟨none,[2],[]⟩] 3 3 mixed rfl rfl (by decide) ?_
  simp only [go_sem,padS]
  refine EvK.go 1000 ?_
  simp only [go_sem]
  rw [Za6 l.l,Za6 l.r]
  exact ⟨Zb4 _ _ _,Zb4 _ _ _⟩
theorem Zyh (a b:Tm) (ha:smT a) (hb:smT b):CallEq Tryz.prog 131 [a.toA,b.toA] (.bool (within a b)):=by
 refine CallEq.begin (rs:=[.tmp 4]) (m:=23) 1000 Tryz.func131 rfl rfl rfl (by decide) trivial ?_
 have h1:=ha.2
 have h2:=hb.2
 have hv:=Ztl a ha.1 (by omega)
 have hw0:=Ztl b hb.1 (by omega)
 have hvl:=Zf7 a
 have hvl2:=Zf7 b
 unfold within
 generalize a.vars=vs at *
 generalize b.vars=us at *
 obtain ⟨Z,hZ⟩:∃ Z,(vs.all fun v=>decide (v∈us))=Z:=⟨_,rfl⟩
 rw [hZ]
 simp only [go_sem,Za4]
 refine VCall.isoT [] (hv) (by (try simp only [Za6]);exact Za1 _ _ _) (by simp [go_sem,Za7,Za0]) ?_;rw [Zad];simp only [ite_self];refine EvK.go 1000 ?_
 simp only [go_sem,Za4]
 refine VCall.isoT [] (hw0) (by (try simp only [Za6]);exact Za1 _ _ _) (by simp [go_sem,Za7,Za0]) ?_;rw [Zad];simp only [ite_self];refine EvK.go 1000 ?_
 simp only [go_sem]
 refine EvK.loopI (ι:={i:Nat // i≤vs.length∧((vs.drop i).all fun v=>decide (v∈us))=Z}) 1000 (fun q=>mkT 25 [(4, .bool false),(5, .ps 1 (ints vs)),(6, .ps 1 (ints us)),(7, .int .i64 q.1)])
  (fun _=>[]) (fun q=>vs.length - q.1) ⟨0,Nat.zero_le _,hZ⟩ ?_ (fun _=>Nat.zero_le _) ?_
 ·simp only [go_sem,Za8]
 ·rintro ⟨i,hi,hpre⟩
  by_cases hlt:(i:Int)<vs.length
  ·have hlt':i<vs.length:=by omega
   have hw:IntKind.i64.wrap ((i:Int)+1)=((i+1:Nat):Int):=by rw [Zaa (by omega)];omega
   have g1:=Zbz hlt'
   have hin:=Yq5 vs[i] us (by omega)
   rw [List.drop_eq_getElem_cons hlt',List.all_cons] at hpre
   generalize vs[i]=v at *
   simp only [go_sem,hlt,Zaj,g1]
   (repeat ((with_reducible refine And.intro ?_ ?_); ·omega))
   refine VCall.isoT [] (hin) (Za1 _ _ _) (by simp [go_sem,Za8]) ?_;simp only [flatR,flatA,flatC,if_true];refine EvK.go 1000 ?_
   by_cases e:v∈us
   ·rw [decide_eq_true e,Bool.true_and] at hpre
    simp only [go_sem,e,hw]
    refine ⟨⟨i+1,by omega,hpre⟩,?_,by simp only;omega⟩
    simp only [go_sem,Za8]
   ·rw [decide_eq_false e,Bool.false_and] at hpre
    subst hpre
    simp only [go_sem,e]
    refine EvK.go 1000 ?_
    simp only [go_sem]
  ·have hi':i=vs.length:=by omega
   subst hi'
   rw [List.drop_length] at hpre
   have hpre:true=Z:=hpre
   subst hpre
   simp only [go_sem,hlt,Zaj]
   refine EvK.go 1000 ?_
   simp only [go_sem]
theorem Yl0 {c:List Li} (h:(c.length:Int)≠1):isU c=false:=by
 unfold isU;split
 ·simp at h
 ·rfl
theorem Yfz (c:List Li) (hc:c.length<1000000):CallEq Tryz.prog 96 [.ps 5 (lits c)] (.bool (isU c)):=by
 refine CallEq.begin (rs:=[.tmp 2]) (m:=12) 1000 Tryz.func96 rfl rfl rfl (by decide) trivial ?_
 by_cases c1:(c.length:Int)=1
 ·obtain ⟨e,rfl⟩:=List.length_eq_one_iff.1 (show c.length=1 by omega)
  cases hneg:e.neg with
  | true =>
   have hu:isU [e]=false:=by simp [isU,hneg]
   rw [hu]
   simp only [go_sem,show lits [e]=[e.toA] from rfl,Zao,hneg]
  | false =>
   have hu:isU [e]=true:=by simp [isU,hneg]
   rw [hu]
   simp only [go_sem,show lits [e]=[e.toA] from rfl,Zao,hneg]
 ·rw [Yl0 c1]
  simp only [go_sem,Zac,c1]
theorem Ybc (g:List Sy) (es:List (List Li)) (c:List Li) (hes:∀ x∈c :: es,smallC x) (hl:es.length<1000000):CallEq Tryz.prog 28 [.ps 4 (syms g), .ps 1 (clsA es), .ps 5 (lits c)] (.int .i64 (wrongL g (c :: es))):=by
 refine CallEq.begin (rs:=[.tmp 6]) (m:=26) 1000 Tryz.func28 rfl rfl rfl (by decide) trivial ?_
 have hck:∀ x∈c :: es,CallEq Tryz.prog 19 [.ps 4 (syms g), .ps 5 (lits x)] (.int .i64 (clauseCheck g x)):=fun x hx=>Zd7 g x (fun i hi=>by have:=hes x hx i hi;omega)
 have h1:=hck c (by simp)
 obtain ⟨Z,hZ⟩:∃ Z,wrongL g (c :: es)=Z:=⟨_,rfl⟩
 rw [hZ]
 simp only [go_sem]
 refine VCall.isoT [] (h1) (Za1 _ _ _) (by simp [go_sem,Za5,Za3]) ?_;simp only [flatR,flatA,flatC,if_true];refine EvK.go 1000 ?_
 simp only [go_sem]
 refine EvK.loopI (ι:={q:Nat×Int // q.1≤es.length∧(if q.2≠0 then q.2 else wrongL g (es.drop q.1))=Z}) 1000 (fun q=>mkT 29 [(0, .ps 4 (syms g)),(1, .ps 1 (clsA es)),(6, .int .i64 0),(7, .int .i64 q.1.2),(8, .int .i64 q.1.1)])
  (fun _=>[]) (fun q=>es.length - q.1.1) ⟨(0,clauseCheck g c),Nat.zero_le _,by rw [wrongL] at hZ;exact hZ⟩ ?_ (fun _=>Nat.zero_le _) ?_
 ·simp only [go_sem,Za5,Zak]
 ·rintro ⟨⟨i,e⟩,hi,hpre⟩
  simp only at hi hpre
  by_cases hlt:(i:Int)<es.length
  ·have hlt':i<es.length:=by omega
   have hw:IntKind.i64.wrap ((i:Int)+1)=((i+1:Nat):Int):=by rw [Zaa (by omega)];omega
   have g1:=Zh3 hlt'
   have hc2:=hck _ (List.mem_cons_of_mem _ (List.getElem_mem hlt'))
   rw [List.drop_eq_getElem_cons hlt',wrongL] at hpre
   generalize es[i]=d at *
   by_cases e0:e=0
   ·subst e0
    rw [if_neg (by simp)] at hpre
    simp only [go_sem,hlt,Zbd,g1]
    (repeat ((with_reducible refine And.intro ?_ ?_); ·omega))
    refine VCall.isoT [] (hc2) (Za1 _ _ _) (by simp [go_sem,Za5,Za3]) ?_;simp only [flatR,flatA,flatC,if_true];refine EvK.go 1000 ?_
    simp only [go_sem,hw]
    refine ⟨⟨(i+1,clauseCheck g d),by simp only;omega,hpre⟩,?_,by simp only;omega⟩
    simp only [go_sem,Za5,Zak]
   ·rw [if_pos e0] at hpre
    subst hpre
    simp only [go_sem,hlt,Zbd,e0]
    refine EvK.go 1000 ?_
    simp only [go_sem]
  ·have hi':i=es.length:=by omega
   subst hi'
   rw [List.drop_length,wrongL] at hpre
   have hpre:e=Z:=by rw [← hpre];split<;>omega
   subst hpre
   simp only [go_sem,hlt,Zbd]
   refine EvK.go 1000 ?_
   simp only [go_sem]
theorem Ztz {P:Tm→Prop} {s:List Bd} (h:∀ b∈s,P b.t) {v:Int} (hv:P (.mk (-1 - v) [])):P (ofB s v):=by
 unfold ofB
 cases hf:s.find? (fun b=>b.v==v) with
 | some b=>exact h b (List.mem_of_find?_eq_some hf)
 | none=>exact hv
theorem Yoo (v:Nat) (h:v<256):smT (.mk (-1 - (v:Int)) []):=⟨⟨by unfold In64;omega,trivial⟩,by simp [Tm.size,Tm.sizes]⟩
theorem Ygo {s:List Bd} (h:∀ b∈s,smT b.t):∀ b∈tidyD s,smT b.t∧0≤b.v∧b.v≤255:=fun b hb=>by
 unfold tidyD tidyL at hb
 obtain ⟨v,hv,he⟩:=List.mem_filterMap.1 hb
 have hv:=List.mem_range.1 hv
 unfold tidyAt at he
 split at he
 ·cases he
 ·cases he
  exact ⟨Ztz h (Yoo v hv),by simp only;omega,by simp only;omega⟩
theorem Ya6 (s:List Bd):(tidyD s).length≤256:=by
 unfold tidyD tidyL
 have:=List.length_filterMap_le (tidyAt s) (List.range 256)
 simpa using this
theorem Zza {l u:Tm} (hu:smT u):(∀ b∈(allD [l] [u]).1,smT b.t∧0≤b.v∧b.v≤255)∧(allD [l] [u]).1.length≤256:=by
 unfold allD
 split
 ·exact ⟨fun b hb=>(by cases hb),by simp⟩
 split
 ·exact ⟨fun b hb=>(by cases hb),by simp⟩
 ·refine ⟨Ygo fun b hb=>?_,Ya6 _⟩
  unfold gaLD at hb
  split at hb
  ·exact Zjo (P:=smT) Zhn [l] [u] [] (fun x hx=>by rw [List.mem_singleton.1 hx];exact hu) (fun b hb=>by cases hb) b hb
  ·cases hb
mutual
theorem Yjv {bs:List Bd} (hb:∀ b∈bs,smT b.t):∀ t:Tm,t.good=true→t.fit→(t.pd bs).fit∧(t.pd bs).size≤t.size*400
 | .mk h ts,hg,hf=>by
  have hh:=Zcz hg
  rw [Tm.pd]
  split
  ·have:smT (ofB bs (-1 - h)):=Ztz hb ⟨⟨by have:=hh.1;simp only [Tm.head] at this;unfold In64;omega,trivial⟩,by simp [Tm.size,Tm.sizes]⟩
   exact ⟨this.1,by have:=this.2;rw [Tm.size];omega⟩
  ·have hga:Tm.goods ts=true:=by rw [Tm.good,Bool.and_eq_true] at hg;exact hg.2
   obtain ⟨a1,a2⟩:=Yk4 hb ts hga hf.2
   exact ⟨⟨hf.1,a1⟩,by rw [Tm.size,Tm.size];omega⟩
theorem Yk4 {bs:List Bd} (hb:∀ b∈bs,smT b.t):∀ ts:List Tm,Tm.goods ts=true→Tm.fits ts→Tm.fits (Tm.pdL bs ts)∧Tm.sizes (Tm.pdL bs ts)≤Tm.sizes ts*400
 | [],_,_=>⟨trivial,by simp [Tm.pdL,Tm.sizes]⟩
 | t :: ts,hg,hf=>by
  rw [Tm.goods,Bool.and_eq_true] at hg
  obtain ⟨a1,a2⟩:=Yjv hb t hg.1 hf.1
  obtain ⟨b1,b2⟩:=Yk4 hb ts hg.2 hf.2
  rw [Tm.pdL]
  exact ⟨⟨a1,b1⟩,by rw [Tm.sizes,Tm.sizes];omega⟩
end
def eqL (x y:Tm):Li:=⟨false,x,y⟩
def turnD (g:List Sy) (e:Li) (n:Int) (u:Tm) (c:List Li):Tm×Bool :=
 if (sideD e n).1.head=0∨(sideD e n).1.truth g≠u.truth g∨within (sideD e n).2 (sideD e n).1=false then (u,false) else
 if (allD [(sideD e n).1] [u]).2.2≠0∨(allD [(sideD e n).1] [u]).2.1=false then (u,false) else
 if clauseCheck g [eqL ((sideD e n).1.pd (allD [(sideD e n).1] [u]).1) ((sideD e n).2.pd (allD [(sideD e n).1] [u]).1)]≠0 ∧
  clauseCheck g [eqL ((sideD e n).2.pd (allD [(sideD e n).1] [u]).1) ((sideD e n).1.pd (allD [(sideD e n).1] [u]).1)]≠0 then (u,false) else
 if ((sideD e n).1.pd (allD [(sideD e n).1] [u]).1).gr g ((sideD e n).2.pd (allD [(sideD e n).1] [u]).1)=false ∨
  st10 g [eqL ((sideD e n).1.pd (allD [(sideD e n).1] [u]).1) ((sideD e n).2.pd (allD [(sideD e n).1] [u]).1)] c≠-1 then (u,false) else
 ((sideD e n).2.pd (allD [(sideD e n).1] [u]).1,true)
theorem Yb8 {g:List Sy} {x y:Tm} (h:clauseCheck g [eqL x y]=0):x.term g=0∧y.term g=0:=by
 have h1:=(Zcp h).2.2 (eqL x y) (by simp)
 exact Zcq h1
set_option maxHeartbeats 1000000 in
theorem Yjs (g:List Sy) (e:Li) (n:Int) (u:Tm) (c:List Li) (hl:rtT g (sideD e n).1) (hr:rtT g (sideD e n).2) (hu:rtT g u) (hc:∀ x∈c,rtL g x) (hcl:c.length<400000) :
  CallEq Tryz.prog 97 [.ps 4 (syms g),e.toA, .int .i64 n,u.toA, .ps 5 (lits c)] (.tup [(turnD g e n u c).1.toA, .bool (turnD g e n u c).2]):=by
 refine CallEq.begin (rs:=[.cell 10 48, .tmp 11]) (m:=92) 1000 Tryz.func97 rfl rfl rfl (by decide) ⟨Za7 _,trivial,trivial⟩ ?_
 have hside:=Znt e n
 obtain ⟨Z,hZ⟩:∃ Z,turnD g e n u c=Z:=⟨_,rfl⟩
 rw [hZ]
 unfold turnD at hZ
 generalize (sideD e n).1=l at *
 generalize (sideD e n).2=r at *
 have sl:=Zbj hl
 have sr:=Zbj hr
 have su:=Zbj hu
 have gl:=(Zbc (Zbh hl.1).1).2.2
 have gr:=(Zbc (Zbh hr.1).1).2.2
 have t1:=Zhg g l
 have t2:=Zhg g u
 have t3:=Zyh r l sr sl
 have hma:=Yey l u (by have:=sl.2;omega) (by have:=su.2;omega)
 obtain ⟨mb,ml⟩:=Zza (l:=l) su
 generalize allD [l] [u]=m at *
 have p1:=Ybw m.1 (by omega) l gl (by have:=sl.2;omega)
 have p2:=Ybw m.1 (by omega) r gr (by have:=sr.2;omega)
 obtain ⟨x1,x2⟩:=Yjv (fun b hb=>(mb b hb).1) l gl sl.1
 obtain ⟨y1,y2⟩:=Yjv (fun b hb=>(mb b hb).1) r gr sr.1
 generalize l.pd m.1=x at *
 generalize r.pd m.1=y at *
 have hsx:x.size≤160000:=by have:=Nat.mul_le_mul_right 400 sl.2;omega
 have hsy:y.size≤160000:=by have:=Nat.mul_le_mul_right 400 sr.2;omega
 have k1:=Zd7 g [eqL x y] (fun i hi=>by
  have:i=0:=by simpa using hi
  subst this;simp only [List.getElem_cons_zero,eqL];omega)
 have k2:=Zd7 g [eqL y x] (fun i hi=>by
  have:i=0:=by simpa using hi
  subst this;simp only [List.getElem_cons_zero,eqL];omega)
 have e1:lits [eqL x y]=[.agg [.bool false, .int .i64 x.head, .ps 2 (x.args.map Tm.toA), .int .i64 y.head, .ps 2 (y.args.map Tm.toA)]]:=rfl
 have e2:lits [eqL y x]=[.agg [.bool false, .int .i64 y.head, .ps 2 (y.args.map Tm.toA), .int .i64 x.head, .ps 2 (x.args.map Tm.toA)]]:=rfl
 simp only [go_sem,Zao,Za4]
 refine VCall.isoT [] hside (Za1 _ _ _) ⟨Zbr _,trivial,trivial⟩ ?_
 rw [Zad];simp only [ite_self]
 refine EvK.go 1000 ?_
 simp only [go_sem,Za4]
 have fin:∀ (t:Tm) (S:Store) (b:Bool),pTL (fun _=>true) S [t.toA, .bool b] [.agg [.int .i64 t.head, .ps 2 (t.args.map Tm.toA)], .bool b]:=fun t S b=>by rw [Za6];exact Za1 _ _ _
 by_cases h0:l.head=0
 ·rw [if_pos (.inl h0)] at hZ
  subst hZ
  refine EvK.draw [] 5 5 mixed rfl rfl (by decide) ?_
  simp only [go_sem,padS,h0]
  refine EvK.go 1000 ?_
  simp only [go_sem]
  first
   | done
   | exact fin _ _ _
   | (rw [Za6];exact Zb4 _ _ _)
   | (rw [Za6];exact Za1 _ _ _)
   | trace_state
 ·refine EvK.draw [] 5 5 mixed rfl rfl (by decide) ?_
  simp only [go_sem,padS,h0]
  refine Zaq (t1) (by (try simp only [Za6]);exact Za1 _ _ _) (by simp [go_sem,Za7,Za0,Za5]) ?_
  simp only [go_sem]
  refine Zaq (t2) (by (try simp only [Za6]);exact Za1 _ _ _) (by simp [go_sem,Za7,Za0,Za5]) ?_
  by_cases h1:l.truth g=u.truth g
  ·have h1':(l.truth g==u.truth g)=true:=by simp [h1]
   simp only [go_sem,h1']
   refine Zaq (t3) (by (try simp only [Za6]);exact Za1 _ _ _) (by simp [go_sem,Za7,Za0]) ?_
   cases h2:within r l with
   | false =>
    rw [if_pos (.inr (.inr h2))] at hZ
    subst hZ
    simp only [go_sem]
    refine EvK.go 1000 ?_
    simp only [go_sem]
    first
     | done
     | exact fin _ _ _
     | (rw [Za6];exact Zb4 _ _ _)
     | (rw [Za6];exact Za1 _ _ _)
     | trace_state
   | true =>
    rw [if_neg (fun h=>h.elim h0 fun h=>h.elim (fun h=>h h1) fun h=>by rw [h2] at h;cases h)] at hZ
    simp only [go_sem]
    refine EvK.go 1000 ?_
    simp only [go_sem]
    refine VCall.isoT [] (hma) (by (try simp only [Za6]);exact Za1 _ _ _) (by simp [go_sem,Za7,Za0]) ?_;rw [Zad];simp only [ite_self];refine EvK.go 1000 ?_
    by_cases h3:m.2.2=0
    ·cases h4:m.2.1 with
     | false =>
      rw [if_pos (.inr h4)] at hZ
      subst hZ
      simp only [go_sem,h3]
      first
       | done
       | exact fin _ _ _
       | (rw [Za6];exact Zb4 _ _ _)
       | (rw [Za6];exact Za1 _ _ _)
       | trace_state
     | true =>
      rw [if_neg (fun h=>h.elim (fun h=>h h3) fun h=>by rw [h4] at h;cases h)] at hZ
      simp only [go_sem,h3,Za4]
      refine VCall.isoT [] p1 (by (try simp only [Za6]);exact Za1 _ _ _) ⟨of_eq_true (Zbo _),Za7 _,trivial⟩ ?_
      rw [Zad];simp only [ite_self]
      refine EvK.go 1000 ?_
      simp only [go_sem,Za4]
      refine VCall.isoT [] p2 (by (try simp only [Za6]);exact Za1 _ _ _) ⟨of_eq_true (Zbo _),Za7 _,trivial⟩ ?_
      rw [Zad];simp only [ite_self]
      refine EvK.go 1000 ?_
      simp only [go_sem,Za4]
      have rd:∀ (S:Store) (a b:Tm) (i:Nat),getS S i=some (.row [.agg [.bool false, .int .i64 a.head, .ps 2 (a.args.map Tm.toA), .int .i64 b.head, .ps 2 (b.args.map Tm.toA)]] 0)→pT (among [i]) S (.ps 5 (lits [eqL a b])) (.os i 0 1 5):=fun S a b i hS=>by
       have e3:lits [eqL a b]=[.agg [.bool false, .int .i64 a.head, .ps 2 (a.args.map Tm.toA), .int .i64 b.head, .ps 2 (b.args.map Tm.toA)]]:=rfl
       rw [e3]
       simp only [go_sem,hS,Zb2,Zba]
      refine VCall.isoT [7] k1 (by rw [List.nil_append,List.append_nil,Zcx,Zcx];exact ⟨Zb4 _ _ _,rd _ x y 7 rfl,by simp [go_sem]⟩) ⟨Za5 _,Za3 _,trivial⟩ ?_
      simp only [flatR,flatA,flatC,if_true]
      refine EvK.go 1000 ?_
      by_cases h5:clauseCheck g [eqL x y]=0
      case' pos =>
       have hrt:=Yb8 h5
       rw [if_neg (fun h=>h.1 h5)] at hZ
       simp only [go_sem,h5]
      case' neg =>
       simp only [go_sem,h5]
       refine VCall.isoT [8] k2 (by rw [List.nil_append,List.append_nil,Zcx,Zcx];exact ⟨Zb4 _ _ _,rd _ y x 8 rfl,by simp [go_sem]⟩) ⟨Za5 _,Za3 _,trivial⟩ ?_
       simp only [flatR,flatA,flatC,if_true]
       refine EvK.go 1000 ?_
       by_cases h6:clauseCheck g [eqL y x]=0
       case' neg =>
        rw [if_pos ⟨h5,h6⟩] at hZ
        subst hZ
        simp only [go_sem,h6]
        first
         | done
         | exact fin _ _ _
         | (rw [Za6];exact Zb4 _ _ _)
         | (rw [Za6];exact Za1 _ _ _)
         | trace_state
       have hrt:=(Yb8 h6).symm
       rw [if_neg (fun h=>h.2 h6)] at hZ
       simp only [go_sem,h6]
      all_goals
       have rx:rtT g x:=⟨hrt.1,x1⟩
       have ry:rtT g y:=⟨hrt.2,y1⟩
       have q1:=Zf4 g _ x y (Nat.le_refl _) rx ry
       have q2:=Ztr g [eqL x y] c (fun z hz=>by rw [List.mem_singleton.1 hz];exact ⟨rx,ry⟩) hc (by simp) hcl
       refine VCall.isoT [] q1 (by (try simp only [Za6]);exact Za1 _ _ _) ⟨Za5 _,Za7 _,Za7 _,trivial⟩ ?_
       simp only [flatR,flatA,flatC,if_true]
       refine EvK.go 1000 ?_
       cases h7:x.gr g y with
       | false =>
        rw [if_pos (.inl h7)] at hZ
        subst hZ
        simp only [go_sem]
        first
         | done
         | exact fin _ _ _
         | (rw [Za6];exact Zb4 _ _ _)
         | (rw [Za6];exact Za1 _ _ _)
         | trace_state
       | true =>
        simp only [go_sem]
        refine VCall.isoT [7] q2 (by rw [List.nil_append,List.append_nil,Zcx,Zcx,Zcx];exact ⟨Zb4 _ _ _,rd _ x y 7 rfl,Zb4 _ _ _,by simp [go_sem]⟩) ⟨Za5 _,Za3 _,Za3 _,trivial⟩ ?_
        simp only [flatR,flatA,flatC,if_true]
        refine EvK.go 1000 ?_
        by_cases h8:st10 g [eqL x y] c = -1
        ·rw [if_neg (fun h=>h.elim (fun h=>by rw [h7] at h;cases h) fun h=>h h8)] at hZ
         subst hZ
         simp only [go_sem,h8]
         first
          | done
          | exact fin _ _ _
          | (rw [Za6];exact Zb4 _ _ _)
          | (rw [Za6];exact Za1 _ _ _)
          | trace_state
        ·rw [if_pos (.inr h8)] at hZ
         subst hZ
         simp only [go_sem,h8]
         first
          | done
          | exact fin _ _ _
          | (rw [Za6];exact Zb4 _ _ _)
          | (rw [Za6];exact Za1 _ _ _)
          | trace_state
    ·rw [if_pos (.inl h3)] at hZ
     subst hZ
     simp only [go_sem,h3]
     first
      | done
      | exact fin _ _ _
      | (rw [Za6];exact Zb4 _ _ _)
      | (rw [Za6];exact Za1 _ _ _)
      | trace_state
  ·rw [if_pos (.inr (.inl h1))] at hZ
   subst hZ
   have h1':(l.truth g==u.truth g)=false:=by simpa using h1
   simp only [go_sem,h1']
   refine EvK.go 1000 ?_
   simp only [go_sem]
   first
    | done
    | exact fin _ _ _
    | (rw [Za6];exact Zb4 _ _ _)
    | (rw [Za6];exact Za1 _ _ _)
    | trace_state
def withD (c:List Li) (i:Nat) (rt:Bool) (p:List Int) (t:Tm):List Li:=match c[i]? with
 | some l=>c.set i (l.putS rt ((l.side rt).putP p t))
 | none=>c
theorem Yhc (c:List Li) (i:Nat) (hi:i<c.length) (rt:Bool) (n:Int) (hn:n=if rt then 1 else 0) (p:List Int) (t v:Tm) (hv:(c[i].side rt).atP p=some v) (hp:p.length≤1000000) (hs:(c[i].side rt).size≤1000000) (hc:c.length<1000000) :
  CallEq Tryz.prog 98 [.ps 5 (lits c), .int .i64 i, .int .i64 n, .ps 1 (ints p),t.toA] (.ps 5 (lits (withD c i rt p t))):=by
 refine CallEq.begin (rs:=[.tmp 10]) (m:=69) 1000 Tryz.func98 rfl rfl rfl (by decide) (Za3 _) ?_
 have hput:=Yly p (c[i].side rt) t v hp hs hv
 have hW:withD c i rt p t=c.set i (c[i].putS rt ((c[i].side rt).putP p t)):=by unfold withD;rw [List.getElem?_eq_getElem hi]
 rw [hW]
 have g1:=Zcb hi
 have hne:¬ (c.length=0):=by omega
 have hll:=Zac c
 have htk:List.take c.length (lits c)=lits c:=List.take_of_length_le (by omega)
 have hil:(i:Int)<c.length:=by omega
 have hset:∀ l:Li,(lits c).set i l.toA=lits (c.set i l):=fun l=>by unfold lits;rw [List.map_set]
 have hag:isAggA ((lits c).getD i .undef)=true:=by rw [g1];rfl
 have hcl:c.length≤1000000000:=by omega
 generalize (c[i].side rt).putP p t=z at *
 cases rt with
 | false =>
  simp only [Bool.false_eq_true,if_false,if_true] at hn
  subst hn
  simp only [Li.side,Bool.false_eq_true,if_false,if_true] at hput
  simp only [Li.putS,Bool.false_eq_true,if_false,if_true]
  generalize c[i]=l at *
  have he:(lits c).set i (mkElem (isAggA l.toA) [.bool l.neg, .int .i64 z.head, .ps 2 (z.args.map Tm.toA), .int .i64 l.r.head, .ps 2 (l.r.args.map Tm.toA)])=lits (c.set i { neg:=l.neg,l:=z,r:=l.r }):=by
   rw [show mkElem (isAggA l.toA) [.bool l.neg, .int .i64 z.head, .ps 2 (z.args.map Tm.toA), .int .i64 l.r.head, .ps 2 (l.r.args.map Tm.toA)]=({ neg:=l.neg,l:=z,r:=l.r }:Li).toA from rfl]
   simp [lits,List.map_set]
  simp only [go_sem,Za4,hll,hne,htk,hcl]
  refine EvK.draw [⟨none,[],[2]⟩,⟨none,[],[2]⟩,⟨none,[],[2]⟩,⟨none,[],[2]⟩,⟨none,[],[2]⟩,⟨none,[],[2]⟩,⟨none,[],[2]⟩,⟨none,[],[2]⟩,⟨none,[],[2]⟩,⟨none,[],[2]⟩,⟨none,[],[2]⟩,⟨some 2,[2],[]⟩,⟨none,[2],[]⟩] 2 3 mixed rfl rfl (by decide) ?_
  simp only [go_sem,padS,g1,Zao,hll,hil]
  (repeat ((with_reducible refine And.intro ?_ ?_); ·omega))
  refine Zaq hput (by (try simp only [Za6]);exact Za1 _ _ _) ⟨Za7 _,Za8 _,Za7 _,trivial⟩ ?_
  simp only [go_sem,Za4]
  refine EvK.go 1000 ?_
  simp only [go_sem]
  refine EvK.draw [.no, .no, .no, .no, .no, .no, .no, .no, .no, .no, .no, .no, .no, .no, .no,⟨none,[1],[]⟩] 3 3 mixed rfl rfl (by decide) ?_
  simp only [go_sem,padS,g1,Zao,hll,hil,Za4]
  (repeat ((with_reducible refine And.intro ?_ ?_); ·omega))
  rw [he]
  refine EvK.go 1000 ?_
  simp only [go_sem,Zac,List.length_set]
  rw [List.take_of_length_le (by rw [Zac,List.length_set];exact Nat.le_refl _)]
  exact Za1 _ _ _
 | true =>
  simp only [Bool.false_eq_true,if_false,if_true] at hn
  subst hn
  simp only [Li.side,Bool.false_eq_true,if_false,if_true] at hput
  simp only [Li.putS,Bool.false_eq_true,if_false,if_true]
  generalize c[i]=l at *
  have he:(lits c).set i (mkElem (isAggA l.toA) [.bool l.neg, .int .i64 l.l.head, .ps 2 (l.l.args.map Tm.toA), .int .i64 z.head, .ps 2 (z.args.map Tm.toA)])=lits (c.set i { neg:=l.neg,l:=l.l,r:=z }):=by
   rw [show mkElem (isAggA l.toA) [.bool l.neg, .int .i64 l.l.head, .ps 2 (l.l.args.map Tm.toA), .int .i64 z.head, .ps 2 (z.args.map Tm.toA)]=({ neg:=l.neg,l:=l.l,r:=z }:Li).toA from rfl]
   simp [lits,List.map_set]
  simp only [go_sem,Za4,hll,hne,htk,hcl]
  refine EvK.draw [⟨none,[],[2]⟩,⟨none,[],[2]⟩,⟨none,[],[2]⟩,⟨none,[],[2]⟩,⟨none,[],[2]⟩,⟨none,[],[2]⟩,⟨none,[],[2]⟩,⟨none,[],[2]⟩,⟨none,[],[2]⟩,⟨none,[],[2]⟩,⟨none,[],[2]⟩,⟨some 2,[2],[]⟩,⟨none,[2],[]⟩] 2 3 mixed rfl rfl (by decide) ?_
  simp only [go_sem,padS,g1,Zao,hll,hil]
  (repeat ((with_reducible refine And.intro ?_ ?_); ·omega))
  refine Zaq hput (by (try simp only [Za6]);exact Za1 _ _ _) ⟨Za7 _,Za8 _,Za7 _,trivial⟩ ?_
  simp only [go_sem,Za4]
  refine EvK.go 1000 ?_
  simp only [go_sem]
  refine EvK.draw [.no, .no, .no, .no, .no, .no, .no, .no, .no, .no, .no, .no, .no, .no, .no,⟨none,[1],[]⟩] 3 3 mixed rfl rfl (by decide) ?_
  simp only [go_sem,padS,g1,Zao,hll,hil,Za4]
  (repeat ((with_reducible refine And.intro ?_ ?_); ·omega))
  rw [he]
  refine EvK.go 1000 ?_
  simp only [go_sem,Zac,List.length_set]
  rw [List.take_of_length_le (by rw [Zac,List.length_set];exact Nat.le_refl _)]
  exact Za1 _ _ _
def trD (g:List Sy) (e:Li) (u:Tm) (c:List Li):Nat→Option Tm
 | 0=>if (turnD g e 0 u c).2=true then some (turnD g e 0 u c).1 else if (turnD g e 1 u c).2=true then some (turnD g e 1 u c).1 else none
 | 1=>if (turnD g e 1 u c).2=true then some (turnD g e 1 u c).1 else none
 | _=>none
def firstD (g:List Sy) (u:Tm) (c:List Li):List (List Li)→Nat→Option (Nat×Tm)
 | [],_=>none
 | [e] :: es,k=>if e.neg=true then firstD g u c es (k+1) else match trD g e u c 0 with
  | some t=>some (k,t)
  | none=>firstD g u c es (k+1)
 | _ :: es,k=>firstD g u c es (k+1)
theorem Zk0 {g:List Sy} {u:Tm} {c d:List Li} {es:List (List Li)} {k:Nat} (h:isU d=false):firstD g u c (d :: es) k=firstD g u c es (k+1):=by
 match d with
 | []=>rw [firstD];rintro e h;cases h
 | [e] =>
  have:e.neg=true:=by simpa [isU] using h
  rw [firstD,if_pos this]
 | _ :: _ :: _=>rw [firstD];rintro e h;cases h
theorem Zi6 {g:List Sy} {u:Tm} {c:List Li} {e:Li} {es:List (List Li)} {k:Nat} (h:isU [e]=true):firstD g u c ([e] :: es) k=match trD g e u c 0 with
  | some t=>some (k,t)
  | none=>firstD g u c es (k+1):=by
 have:¬ e.neg=true:=by simpa [isU] using h
 rw [firstD,if_neg this]
def atD (g:List Sy) (es:List (List Li)) (c:List Li) (i:Nat) (rt:Bool) (p:List Int) (u:Tm):List Li×Int:=match firstD g u c es 0 with
 | some x=>(withD c i rt p x.2,(x.1:Int))
 | none=>(c, -1)
set_option maxHeartbeats 1000000 in
theorem Yog (g:List Sy) (es:List (List Li)) (c:List Li) (i:Nat) (hi:i<c.length) (rt:Bool) (n:Int) (hn:n=if rt then 1 else 0) (p:List Int) (u:Tm)
  (hv:(c[i].side rt).atP p=some u) (hp:p.length≤1000000) (hc:∀ x∈c,rtL g x) (hcl:c.length<400000) (hes:∀ d∈es, ∀ e∈d,rtL g e) (hel:es.length<400000) (hed:∀ d∈es,d.length<1000000) :
  CallEq Tryz.prog 61 [.ps 4 (syms g), .ps 1 (clsA es), .ps 5 (lits c), .int .i64 i, .int .i64 n, .ps 1 (ints p)] (.tup [.ps 5 (lits (atD g es c i rt p u).1), .int .i64 (atD g es c i rt p u).2]):=by
 refine CallEq.begin (rs:=[.tmp 12, .tmp 13]) (m:=71) 1000 Tryz.func61 rfl rfl rfl (by decide) ⟨Za3 _,trivial,trivial⟩ ?_
 have hci:=hc _ (List.getElem_mem hi)
 have hrs:rtT g (c[i].side rt):=by unfold Li.side;split;exact hci.2;exact hci.1
 have hsz:=(Zbj hrs).2
 have hu:rtT g u:=Zia Zfw _ _ _ hrs hv
 have hsd:(sideD c[i] n).1=c[i].side rt:=by
  rw [hn];unfold sideD Li.side;cases rt<;>simp
 have hside:=Znt c[i] n
 rw [hsd] at hside
 have hat:=Yc1 p (c[i].side rt) hp (by omega)
 rw [hv] at hat
 simp only [Option.getD_some,Option.isSome_some] at hat
 have hwd:=fun t=>Yhc c i hi rt n hn p t u hv hp (by omega) (by omega)
 have g1:=Zcb hi
 have hil:(i:Int)<c.length:=by omega
 generalize c[i].side rt=sd at *
 generalize c[i]=li at *
 obtain ⟨Z,hZ⟩:∃ Z,atD g es c i rt p u=Z:=⟨_,rfl⟩
 rw [hZ]
 obtain ⟨F,hF⟩:∃ F,firstD g u c es 0=F:=⟨_,rfl⟩
 unfold atD at hZ
 rw [hF] at hZ
 generalize (sideD li n).2=so at *
 simp only [go_sem,g1,Zao,hil,Zac]
 (repeat ((with_reducible refine And.intro ?_ ?_); ·omega))
 refine VCall.isoT [] hside (Za1 _ _ _) ⟨Zbr _,trivial,trivial⟩ ?_
 rw [Zad];simp only [ite_self]
 refine EvK.go 1000 ?_
 simp only [go_sem,Za4]
 refine VCall.isoT [] hat (by (try simp only [Za6]);exact Za1 _ _ _) ⟨Za7 _,Za8 _,trivial⟩ ?_
 rw [Zad];simp only [ite_self]
 refine EvK.go 1000 ?_
 simp only [go_sem,Za4]
 refine EvK.loopI (ι:={k:Nat // k≤es.length∧firstD g u c (es.drop k) k=F}) 1000 (fun q=>mkT 77 [(0, .ps 4 (syms g)),(1, .ps 1 (clsA es)),(2, .ps 5 (lits c)),(3, .int .i64 i),(4, .int .i64 n),(5, .ps 1 (ints p)),(12, .nils),(13, .int .i64 0),(16, .ptr 2 0),(18, .int .i64 q.1)])
  (fun _=>[none,none,some (.var [.int .i64 u.head, .ps 2 (u.args.map Tm.toA)])]) (fun q=>es.length - q.1) ⟨0,Nat.zero_le _,hF⟩ ?_ (fun _=>by simp) ?_
 ·simp only [go_sem,Za0,Za5,Zak,Za3,Za8]
 ·rintro ⟨k,hk,hpre⟩
  by_cases hlt:(k:Int)<es.length
  ·have hlt':k<es.length:=by omega
   have hw:IntKind.i64.wrap ((k:Int)+1)=((k+1:Nat):Int):=by rw [Zaa (by omega)];omega
   have g2:=Zh3 hlt'
   have hud:=Yfz es[k] (hed _ (List.getElem_mem hlt'))
   have hrd:=hes _ (List.getElem_mem hlt')
   rw [List.drop_eq_getElem_cons hlt'] at hpre
   generalize es[k]=d at *
   simp only [go_sem,hlt,Zbd]
   cases hd:isU d with
   | false =>
    rw [Zk0 hd] at hpre
    rw [hd] at hud
    refine EvK.loopI (ι:=Unit) 1000 (fun q=>mkT 77 [(0, .ps 4 (syms g)),(1, .ps 1 (clsA es)),(2, .ps 5 (lits c)),(3, .int .i64 i),(4, .int .i64 n),(5, .ps 1 (ints p)),(12, .nils),(13, .int .i64 0),(16, .ptr 2 0),(18, .int .i64 k),(19, .int .i64 0)])
     (fun _=>[none,none,some (.var [.int .i64 u.head, .ps 2 (u.args.map Tm.toA)])]) (fun q=>0) () ?_ (fun _=>by simp) ?_
    ·simp only [go_sem,Za0,Za5,Zak,Za3,Za8]
    ·rintro ⟨⟩
     simp only [go_sem,g2,Zbd,hlt]
     (repeat ((with_reducible refine And.intro ?_ ?_); ·omega))
     refine VCall.isoT [] (hud) (Za1 _ _ _) (by simp [go_sem,Za3]) ?_;simp only [flatR,flatA,flatC,if_true];refine EvK.go 1000 ?_
     simp only [go_sem]
     refine EvK.go 1000 ?_
     simp only [go_sem,hw]
     refine ⟨⟨k+1,by omega,hpre⟩,?_,by simp only;omega⟩
     simp only [go_sem,Za0,Za5,Zak,Za3,Za8]
   | true =>
    obtain ⟨e,rfl⟩:∃ e,d=[e]:=by
     unfold isU at hd;split at hd
     ·exact ⟨_,rfl⟩
     ·cases hd
    rw [Zi6 hd] at hpre
    rw [hd] at hud
    have hre:=hrd e (by simp)
    have htd:=fun m=>Yjs g e m u c (by unfold sideD;split;exact hre.1;exact hre.2) (by unfold sideD;split;exact hre.2;exact hre.1) hu hc hcl
    obtain ⟨W,hW⟩:∃ W,trD g e u c 0=W:=⟨_,rfl⟩
    rw [hW] at hpre
    refine EvK.loopI (ι:={m:Nat // m≤2∧trD g e u c m=W}) 1000 (fun q=>mkT 77 [(0, .ps 4 (syms g)),(1, .ps 1 (clsA es)),(2, .ps 5 (lits c)),(3, .int .i64 i),(4, .int .i64 n),(5, .ps 1 (ints p)),(12, .nils),(13, .int .i64 0),(16, .ptr 2 0),(18, .int .i64 k),(19, .int .i64 q.1)])
     (fun _=>[none,none,some (.var [.int .i64 u.head, .ps 2 (u.args.map Tm.toA)])]) (fun q=>2 - q.1) ⟨0,by omega,hW⟩ ?_ (fun _=>by simp) ?_
    ·simp only [go_sem,Za0,Za5,Zak,Za3,Za8]
    ·rintro ⟨m,hm,hmw⟩
     by_cases hm2:(m:Int)<2
     ·have hw3:IntKind.i64.wrap ((m:Int)+1)=((m+1:Nat):Int):=by rw [Zaa (by omega)];omega
      have ht:=htd m
      have hstep:if (turnD g e m u c).2=true then W=some (turnD g e m u c).1 else trD g e u c (m+1)=W:=by
       rcases (by omega:m=0∨m=1) with rfl | rfl
       ·rw [trD] at hmw
        rw [show ((0:Nat):Int)=0 from rfl]
        split at hmw
        ·rename_i h;rw [if_pos h];exact hmw.symm
        ·rename_i h;rw [if_neg h];exact hmw
       ·rw [trD] at hmw
        rw [show ((1:Nat):Int)=1 from rfl]
        split at hmw
        ·rename_i h;rw [if_pos h];exact hmw.symm
        ·rename_i h;rw [if_neg h];exact hmw
      generalize turnD g e m u c=y at *
      have hl1:lits [e]=[.agg [.bool e.neg, .int .i64 e.l.head, .ps 2 (e.l.args.map Tm.toA), .int .i64 e.r.head, .ps 2 (e.r.args.map Tm.toA)]]:=rfl
      simp only [go_sem,hm2,g2,Zbd,hlt]
      (repeat ((with_reducible refine And.intro ?_ ?_); ·omega))
      refine VCall.isoT [] (hud) (Za1 _ _ _) (by simp [go_sem,Za3]) ?_;simp only [flatR,flatA,flatC,if_true];refine EvK.go 1000 ?_
      simp only [go_sem]
      refine EvK.draw [⟨none,[],[3]⟩,⟨none,[],[3]⟩,⟨none,[],[3]⟩,⟨none,[],[3]⟩,⟨none,[],[3]⟩,⟨none,[],[3]⟩,⟨none,[],[3]⟩,⟨none,[],[3]⟩,⟨none,[],[3]⟩,⟨none,[],[3]⟩,⟨none,[],[3]⟩,⟨none,[],[3]⟩,⟨none,[],[3]⟩,⟨none,[],[3]⟩,⟨some 3,[3],[]⟩,⟨none,[3],[]⟩] 3 4 mixed rfl rfl (by decide) ?_
      simp only [go_sem,padS,g2,Zbd,hlt,hl1,Zao]
      (repeat ((with_reducible refine And.intro ?_ ?_); ·omega))
      refine Zaq ht (by (try simp only [Za6]);exact Za1 _ _ _) ⟨Za5 _,Zbr _,trivial,Za7 _,Za3 _,trivial⟩ ?_
      simp only [go_sem,Za4]
      refine EvK.go 1000 ?_
      cases hy:y.2 with
      | true =>
       rw [hy,if_pos rfl] at hstep
       subst hstep
       simp only at hpre
       subst hpre
       simp only at hZ
       subst hZ
       simp only [go_sem,Za4]
       refine VCall.isoT [] (hwd y.1) (by (try simp only [Za6]);exact Za1 _ _ _) ⟨Za3 _,trivial,trivial,Za8 _,Za7 _,trivial⟩ ?_
       rw [Zad];simp only [ite_self]
       refine EvK.go 1000 ?_
       simp only [go_sem]
       refine EvK.go 1000 ?_
       simp only [go_sem]
       refine EvK.go 1000 ?_
       simp only [go_sem]
      | false =>
       rw [hy,if_neg (by simp)] at hstep
       simp only [go_sem,hw3]
       refine ⟨⟨m+1,by omega,hstep⟩,?_,by simp only;omega⟩
       simp only [go_sem,Za0,Za5,Zak,Za3,Za8]
     ·have hm3:m=2:=by omega
      subst hm3
      have hmw:none=W:=hmw
      subst hmw
      simp only [go_sem,hm2]
      refine EvK.go 1000 ?_
      simp only [go_sem,hw]
      refine ⟨⟨k+1,by omega,hpre⟩,?_,by simp only;omega⟩
      simp only [go_sem,Za0,Za5,Zak,Za3,Za8]
  ·have hk':k=es.length:=by omega
   subst hk'
   rw [List.drop_length,firstD] at hpre
   subst hpre
   subst hZ
   simp only [go_sem,hlt,Zbd]
   refine EvK.go 1000 ?_
   simp only [go_sem]
def firstSD (g:List Sy) (es:List (List Li)) (c:List Li):List Spo→Option (List Li×Int)
 | []=>none
 | s :: ss=>match firstD g s.t c es 0 with
  | some x=>some (withD c s.i.toNat s.rt s.p x.2,(x.1:Int))
  | none=>firstSD g es c ss
def stepD (g:List Sy) (es:List (List Li)) (c:List Li):List Li×Int:=(firstSD g es c (spotsF c 0)).getD (c, -1)
def leftS (i:Nat) (l:Li) (R:List Spo):Nat→List Spo
 | 0=>sideSpots i false l.l++(sideSpots i true l.r++R)
 | 1=>sideSpots i true l.r++R
 | _=>R
theorem Zso (l:Li) (c:List Li) (i:Nat):spotsF (l :: c) i=leftS i l (spotsF c (i+1)) 0:=by
 rw [spotsF,litSpots,List.append_assoc];rfl
set_option maxHeartbeats 1000000 in
theorem Yea (g:List Sy) (es:List (List Li)) (c:List Li) (hc:∀ x∈c,rtL g x) (hcl:c.length<400000) (hes:∀ d∈es, ∀ e∈d,rtL g e) (hel:es.length<400000) (hed:∀ d∈es,d.length<1000000) :
  CallEq Tryz.prog 29 [.ps 4 (syms g), .ps 1 (clsA es), .ps 5 (lits c)] (.tup [.ps 5 (lits (stepD g es c).1), .int .i64 (stepD g es c).2]):=by
 refine CallEq.begin (rs:=[.tmp 6, .tmp 7]) (m:=58) 1000 Tryz.func29 rfl rfl rfl (by decide) ⟨Za3 _,trivial,trivial⟩ ?_
 obtain ⟨F,hF⟩:∃ F,firstSD g es c (spotsF c 0)=F:=⟨_,rfl⟩
 have hSt:stepD g es c=F.getD (c, -1):=by unfold stepD;rw [hF]
 rw [hSt]
 simp only [go_sem]
 refine EvK.loopI (ι:={i:Nat // i≤c.length∧firstSD g es c (spotsF (c.drop i) i)=F}) 1000 (fun q=>mkT 61 [(0, .ps 4 (syms g)),(1, .ps 1 (clsA es)),(2, .ps 5 (lits c)),(6, .nils),(7, .int .i64 0),(8, .int .i64 q.1)])
  (fun _=>[]) (fun q=>c.length - q.1) ⟨0,Nat.zero_le _,hF⟩ ?_ (fun _=>Nat.zero_le _) ?_
 ·simp only [go_sem,Za5,Zak,Za3]
 ·rintro ⟨i,hi,hpre⟩
  by_cases hlt:(i:Int)<c.length
  ·have hlt':i<c.length:=by omega
   have hw:IntKind.i64.wrap ((i:Int)+1)=((i+1:Nat):Int):=by rw [Zaa (by omega)];omega
   have g1:=Zcb hlt'
   have hcr:=hc _ (List.getElem_mem hlt')
   have hat:=fun rt n hn p u hv hp=>Yog g es c i hlt' rt n hn p u hv hp hc hcl hes hel hed
   rw [List.drop_eq_getElem_cons hlt',Zso] at hpre
   generalize c[i]=l at *
   obtain ⟨R,hR⟩:∃ R,spotsF (c.drop (i+1)) (i+1)=R:=⟨_,rfl⟩
   rw [hR] at hpre
   simp only [go_sem,hlt,Zac]
   refine EvK.loopI (ι:={n:Nat // n≤2∧firstSD g es c (leftS i l R n)=F}) 1000 (fun q=>mkT 61 [(0, .ps 4 (syms g)),(1, .ps 1 (clsA es)),(2, .ps 5 (lits c)),(6, .nils),(7, .int .i64 0),(8, .int .i64 i),(9, .int .i64 q.1)])
    (fun _=>[]) (fun q=>2 - q.1) ⟨0,by omega,hpre⟩ ?_ (fun _=>Nat.zero_le _) ?_
   ·simp only [go_sem,Za5,Zak,Za3]
   ·rintro ⟨n,hn,hpn⟩
    by_cases hn2:(n:Int)<2
    ·have hw2:IntKind.i64.wrap ((n:Int)+1)=((n+1:Nat):Int):=by rw [Zaa (by omega)];omega
     have hside:=Znt l n
     obtain ⟨rt,hrt⟩:∃ rt:Bool,rt=decide (n=1):=⟨_,rfl⟩
     have hnr:(n:Int)=if rt then 1 else 0:=by
      rw [hrt];rcases (by omega:n=0∨n=1) with rfl | rfl<;>simp
     have hsd:(sideD l n).1=l.side rt:=by
      rw [hrt];unfold sideD Li.side;rcases (by omega:n=0∨n=1) with rfl | rfl<;>simp
     have hrs:leftS i l R n=sideSpots i rt (l.side rt)++leftS i l R (n+1):=by
      rw [hrt];rcases (by omega:n=0∨n=1) with rfl | rfl<;>rfl
     rw [hsd] at hside
     have hat:=hat rt n hnr
     have hrr:rtT g (l.side rt):=by unfold Li.side;split;exact hcr.2;exact hcr.1
     have hsz:=(Zbj hrr).2
     rw [hrs] at hpn
     generalize l.side rt=sd at *
     generalize (sideD l n).2=so at *
     have hall:=Ymf sd (by omega)
     have hps:∀ p∈sd.plc, ∃ u,sd.atP p=some u∧p.length≤1000:=fun p hp=>by
      rw [← Zuy] at hp
      obtain ⟨p',hp',h1,v,h2,_⟩:=Zg8 sd [] p hp
      rw [List.nil_append] at hp'
      subst hp'
      exact ⟨v,h2,by omega⟩
     have hss:sideSpots i rt sd=sd.plc.map fun p=>⟨(i:Int),rt,p,(sd.atP p).getD zeroT⟩:=by unfold sideSpots;rw [Zuy]
     have hpl:=Yct sd
     rw [hss] at hpn
     generalize sd.plc=P at *
     simp only [go_sem,hn2,g1,Zao,hlt,Zac]
     (repeat ((with_reducible refine And.intro ?_ ?_); ·omega))
     refine VCall.isoT [] hside (Za1 _ _ _) ⟨Zbr _,trivial,trivial⟩ ?_
     rw [Zad];simp only [ite_self]
     refine EvK.go 1000 ?_
     simp only [go_sem,Za4]
     refine VCall.isoT [] (hall) (by (try simp only [Za6]);exact Za1 _ _ _) (by simp [go_sem,Za7,Za0]) ?_;rw [Zad];simp only [ite_self];refine EvK.go 1000 ?_
     simp only [go_sem]
     refine EvK.loopI (ι:={j:Nat // j≤P.length∧firstSD g es c (((P.drop j).map fun p=>(⟨(i:Int),rt,p,(sd.atP p).getD zeroT⟩:Spo))++leftS i l R (n+1))=F}) 1000 (fun q=>mkT 61 [(0, .ps 4 (syms g)),(1, .ps 1 (clsA es)),(2, .ps 5 (lits c)),(6, .nils),(7, .int .i64 0),(8, .int .i64 i),(9, .int .i64 n),(12, .ps 1 (pps P)),(13, .int .i64 q.1)])
      (fun _=>[none,none]) (fun q=>P.length - q.1) ⟨0,Nat.zero_le _,hpn⟩ ?_ (fun _=>Nat.zero_le _) ?_
     ·simp only [go_sem,Za5,Zak,Za3]
     ·rintro ⟨j,hj,hpj⟩
      by_cases hjl:(j:Int)<P.length
      ·have hjl':j<P.length:=by omega
       have hw3:IntKind.i64.wrap ((j:Int)+1)=((j+1:Nat):Int):=by rw [Zaa (by omega)];omega
       have g3:(pps P).getD j .undef = .ps 1 (ints P[j]):=by simp [pps,List.getD,hjl']
       obtain ⟨u,hu1,hu2⟩:=hps _ (List.getElem_mem hjl')
       have hcall:=hat P[j] u hu1 (by omega)
       rw [List.drop_eq_getElem_cons hjl',List.map_cons,List.cons_append,firstSD] at hpj
       rw [hu1] at hpj
       simp only [Option.getD_some,Int.toNat_natCast] at hpj
       generalize P[j]=p at *
       unfold atD at hcall
       generalize firstD g u c es 0=Y at *
       simp only [go_sem,hjl,Zd2,g3]
       (repeat ((with_reducible refine And.intro ?_ ?_); ·omega))
       refine VCall.isoT [] hcall (Za1 _ _ _) ⟨Za5 _,Zak _,Za3 _,trivial,trivial,Za8 _,trivial⟩ ?_
       rw [Zad];simp only [ite_self]
       refine EvK.go 1000 ?_
       cases Y with
       | some y =>
        simp only at hpj
        subst hpj
        have hy:(0:Int)≤y.1:=by omega
        simp only [go_sem,hy]
        refine EvK.go 1000 ?_
        simp only [go_sem,Option.getD_some]
        refine EvK.go 1000 ?_
        simp only [go_sem,Option.getD_some]
        refine EvK.go 1000 ?_
        simp only [go_sem,Option.getD_some]
       | none =>
        simp only at hpj
        have hy:¬ (0:Int)≤-1:=by omega
        simp only [go_sem,hy,hw3]
        refine ⟨⟨j+1,by omega,hpj⟩,?_,by simp only;omega⟩
        simp only [go_sem,Za5,Zak,Za3]
      ·have hj':j=P.length:=by omega
       subst hj'
       rw [List.drop_length,List.map_nil,List.nil_append] at hpj
       simp only [go_sem,hjl,Zd2]
       refine EvK.go 1000 ?_
       simp only [go_sem,hw2]
       refine ⟨⟨n+1,by omega,hpj⟩,?_,by simp only;omega⟩
       simp only [go_sem,Za5,Zak,Za3]
    ·have hn3:n=2:=by omega
     subst hn3
     have hpn:firstSD g es c R=F:=hpn
     rw [← hR] at hpn
     simp only [go_sem,hn2]
     refine EvK.go 1000 ?_
     simp only [go_sem,hw]
     refine ⟨⟨i+1,by omega,hpn⟩,?_,by simp only;omega⟩
     simp only [go_sem,Za5,Zak,Za3]
  ·have hi':i=c.length:=by omega
   subst hi'
   rw [List.drop_length,spotsF,firstSD] at hpre
   subst hpre
   simp only [go_sem,hlt,Zac]
   refine EvK.go 1000 ?_
   simp only [go_sem,Option.getD_none]
def stepDX (g:List Sy) (es:List (List Li)) (c:List Li):List Li×Int×Bool×Int :=
 if wrongL g (c :: es)≠0 then ([],0,false,wrongL g (c :: es)) else if (stepD g es c).2<0 then (c, -1,false,0) else
 if clauseCheck g (stepD g es c).1≠0 then ([],0,false,clauseCheck g (stepD g es c).1) else ((stepD g es c).1,(stepD g es c).2,true,0)
theorem Zmh (c:List Li) (s:Spo) (t:Tm):withD c s.i.toNat s.rt s.p t=putC c s t:=rfl
theorem Zu7 {g:List Sy} {e:Li} {n:Int} {u:Tm} {c:List Li} (hr:rtT g (sideD e n).2) (hu:rtT g u):(turnD g e n u c).1.fit∧(turnD g e n u c).1.size≤160000:=by
 have su:=Zbj hu
 have sr:=Zbj hr
 have hu2:u.fit∧u.size≤160000:=⟨su.1,by have:=su.2;omega⟩
 unfold turnD
 split
 ·exact hu2
 split
 ·exact hu2
 split
 ·exact hu2
 split
 ·exact hu2
 ·obtain ⟨mb,_⟩:=Zza (l:=(sideD e n).1) su
  obtain ⟨y1,y2⟩:=Yjv (fun b hb=>(mb b hb).1) (sideD e n).2 (Zbc (Zbh hr.1).1).2.2 sr.1
  exact ⟨y1,by have:=Nat.mul_le_mul_right 400 sr.2;simp only;omega⟩
theorem Zpq {g:List Sy} {u:Tm} {c:List Li} (hu:rtT g u):∀ (es:List (List Li)) (k:Nat),(∀ d∈es, ∀ e∈d,rtL g e)→∀ x,firstD g u c es k=some x→(x.2.fit∧x.2.size≤160000)∧k≤x.1
 | [],k,_,x,h=>by rw [firstD] at h;cases h
 | d :: es,k,hes,x,h=>by
  have ih:=fun h=>Zpq (c:=c) hu es (k+1) (fun d hd=>hes d (by simp [hd])) x h
  cases hd:isU d with
  | false=>rw [Zk0 hd] at h;have:=ih h;exact ⟨this.1,by omega⟩
  | true =>
   obtain ⟨e,rfl⟩:∃ e,d=[e]:=by
    unfold isU at hd;split at hd
    ·exact ⟨_,rfl⟩
    ·cases hd
   rw [Zi6 hd] at h
   have hre:=hes [e] (by simp) e (by simp)
   split at h
   ·rename_i t ht
    cases h
    refine ⟨?_,Nat.le_refl _⟩
    rw [trD] at ht
    split at ht
    ·cases ht;exact Zu7 (by unfold sideD;split;exact hre.2;exact hre.1) hu
    ·split at ht
     ·cases ht;exact Zu7 (by unfold sideD;split;exact hre.2;exact hre.1) hu
     ·cases ht
   ·have:=ih h;exact ⟨this.1,by omega⟩
theorem Zud {g:List Sy} {c:List Li} (hc:rtC g c):∀ s∈spotsF c 0,rtT g s.t:=fun s hs=>by
 obtain ⟨j,hj,h1,h2,h3⟩:=Zdq c 0 s hs
 exact Zia Zfw _ _ _ (Zhr hc (List.getElem_mem hj) s.rt) h2
theorem Zi4 {g:List Sy} {es:List (List Li)} {c:List Li} (hc:rtC g c) (hes:∀ d∈es, ∀ e∈d,rtL g e):∀ (ss:List Spo),(∀ s∈ss,s∈spotsF c 0)→∀ x,firstSD g es c ss=some x→fitC x.1∧(∀ l∈x.1,l.l.size≤200000∧l.r.size≤200000)∧0≤x.2
 | [],_,x,h=>by rw [firstSD] at h;cases h
 | s :: ss,hs,x,h=>by
  rw [firstSD] at h
  split at h
  ·rename_i y hy
   cases h
   have hms:=hs s (by simp)
   obtain ⟨⟨f1,f2⟩,_⟩:=Zpq (Zud hc s hms) es 0 hes y hy
   obtain ⟨p1,p2⟩:=Zoa hc hms f1
   rw [Zmh]
   exact ⟨p1,fun l hl=>by have:=p2 l hl;omega,by simp only;omega⟩
  ·exact Zi4 hc hes ss (fun s h=>hs s (by simp [h])) x h
theorem Zry {g:List Sy} {es:List (List Li)} {c:List Li} (h:inX es c) (hw:wrongL g (c :: es)=0):rtC g c∧(∀ x∈c,rtL g x)∧(∀ d∈es, ∀ e∈d,rtL g e)∧c.length≤32∧∀ d∈es,d.length≤32:=by
 have hwz:=Zgn hw
 have hc:rtC g c:=⟨hwz c (by simp),(h.2 c (by simp)).2⟩
 have hd:∀ d∈es,rtC g d:=fun d hd=>⟨hwz d (by simp [hd]),(h.2 d (by simp [hd])).2⟩
 exact ⟨hc,fun x hx=>Zdh hc hx,fun d hd' e he=>Zdh (hd d hd') he,(Zcp hc.1).2.1,fun d hd'=>(Zcp (hd d hd').1).2.1⟩
theorem Zvy {g:List Sy} {es:List (List Li)} {c:List Li} (h:inX es c) (hw:wrongL g (c :: es)=0) (hk : 0≤(stepD g es c).2):fitC (stepD g es c).1∧∀ l∈(stepD g es c).1,l.l.size≤200000∧l.r.size≤200000:=by
 obtain ⟨h1,_,h3,_⟩:=Zry h hw
 unfold stepD at hk ⊢
 cases hf:firstSD g es c (spotsF c 0) with
 | none=>rw [hf] at hk;simp at hk
 | some x =>
  have:=Zi4 h1 h3 _ (fun s hs=>hs) x hf
  exact ⟨this.1,this.2.1⟩
theorem Yf5 (g:List Sy) (es:List (List Li)) (c:List Li) (h:inX es c) :
  CallEq Tryz.prog 10 [.ps 4 (syms g), .ps 1 (clsA es), .ps 5 (lits c)] (.tup [.ps 5 (lits (stepDX g es c).1), .int .i64 (stepDX g es c).2.1, .bool (stepDX g es c).2.2.1, .int .i64 (stepDX g es c).2.2.2]):=by
 refine CallEq.begin (rs:=[.tmp 6, .tmp 7, .tmp 8, .tmp 9]) (m:=36) 1000 Tryz.func10 rfl rfl rfl (by decide) ⟨Za3 _,trivial,trivial,trivial,trivial⟩ ?_
 have hW:=Ybc g es c (fun x hx=>(h.2 x hx).1) (by have:=h.1;omega)
 have e0:lits []=[]:=rfl
 unfold stepDX
 simp only [go_sem]
 refine VCall.isoT [] (hW) (Za1 _ _ _) (by simp [go_sem,Za5,Zak,Za3]) ?_;simp only [flatR,flatA,flatC,if_true];refine EvK.go 1000 ?_
 by_cases h0:wrongL g (c :: es)=0
 ·rw [if_neg (fun e=>e h0)]
  obtain ⟨r1,r2,r3,r4,r5⟩:=Zry h h0
  have hS:=Yea g es c r2 (by omega) r3 h.1 (fun d hd=>by have:=r5 d hd;omega)
  have hsm:=Zvy h h0
  generalize stepD g es c=z at *
  simp only [go_sem,h0]
  refine VCall.isoT [] hS (Za1 _ _ _) ⟨Za5 _,Zak _,Za3 _,trivial⟩ ?_
  rw [Zad];simp only [ite_self]
  refine EvK.go 1000 ?_
  by_cases h1:z.2<0
  ·rw [if_pos h1]
   simp only [go_sem,h1]
  ·rw [if_neg h1]
   have hck:=Zd7 g z.1 (fun i hi=>by have:=(hsm (by omega)).2 _ (List.getElem_mem hi);omega)
   simp only [go_sem,h1]
   refine VCall.isoT [] (hck) (Za1 _ _ _) (by simp [go_sem,Za5,Za3]) ?_;simp only [flatR,flatA,flatC,if_true];refine EvK.go 1000 ?_
   by_cases h2:clauseCheck g z.1=0
   ·rw [if_neg (fun e=>e h2)]
    simp only [go_sem,h2]
   ·rw [if_pos h2]
    simp only [go_sem,h2,e0]
 ·rw [if_pos h0]
  simp only [go_sem,h0,e0]
theorem Zrk {g:List Sy} {es:List (List Li)} {c:List Li} (h:inX es c) (h0:(stepDX g es c).2.2.2=0):inX es (stepDX g es c).1:=by
 unfold stepDX at h0 ⊢
 split
 ·rename_i h1;rw [if_pos h1] at h0;exact absurd h0 h1
 ·rename_i h1
  rw [if_neg h1] at h0
  split
  ·exact h
  ·rename_i h2
   rw [if_neg h2] at h0
   split
   ·rename_i h3;rw [if_pos h3] at h0;exact absurd h0 h3
   ·obtain ⟨s1,s2⟩:=Zvy h (by simpa using h1) (by omega)
    refine ⟨h.1,fun x hx=>?_⟩
    rcases List.mem_cons.1 hx with rfl | hx
    ·exact ⟨fun i hi=>by have:=s2 _ (List.getElem_mem hi);omega,s1⟩
    ·exact h.2 x (by simp [hx])
theorem Ybz (g:List Sy) (es:List (List Li)) (c:List Li) (h:inX es c) :
  CallEq Tryz.prog 14 [.ps 4 (syms g), .ps 1 (clsA es), .ps 5 (lits c)] (.tup [.ps 5 (lits (normF (stepDX g es) 201 c []).1), .ps 1 (ints (normF (stepDX g es) 201 c []).2.1), .int .i64 (normF (stepDX g es) 201 c []).2.2]):=by
 refine CallEq.beginK (rs:=[.tmp 6, .tmp 7, .tmp 8]) (m:=35) Tryz.func14 rfl rfl rfl (by decide) ⟨Za3 _,Za8 _,trivial,trivial⟩ ?_
 refine EvK.pad 1 (Nat.le_refl _) (by simp [go_sem,Za5,Zak,Za3]) trivial ?_
 obtain ⟨Z,hZ⟩:∃ Z,normF (stepDX g es) 201 c []=Z:=⟨_,rfl⟩
 rw [hZ]
 have e0:lits []=[]:=rfl
 refine EvK.go 1000 ?_
 simp only [go_sem]
 refine EvK.loopR (ι:={q:List Li×List Int // inX es q.1∧q.2.length≤200∧normF (stepDX g es) (201 - q.2.length) q.1 q.2=Z}) 1000
  (fun q=>mkT 38 [(0, .ps 4 (syms g)),(1, .ps 1 (clsA es)),(2, .ps 5 (lits q.1.1)),(6, .nils),(7, .nils),(8, .int .i64 0),(9,slA 0 1 (ints q.1.2))])
  (fun q=>[slB (ints q.1.2)]) (fun q=>201 - q.1.2.length) ⟨(c,[]),h,by simp,hZ⟩ [] ?_ (fun _=>by simp) ?_
 ·refine Zan rfl ?_
  simp only [go_sem,Zbq,Zbw,Zbp,Za5,Za3,Zak,Za2 (Za5 _),Za2 (Za3 _),Za2 (Zak _)]
 ·rintro ⟨⟨d,u⟩,hid,hu,hn⟩
  simp only at hid hu hn
  rw [show 201 - u.length=(200 - u.length)+1 by omega,normF] at hn
  have hS:=Yf5 g es d hid
  have hin:=Zrk (g:=g) hid
  generalize hz:stepDX g es d=z at *
  simp only [go_sem]
  refine VCall.isoT [] hS (Za1 _ _ _) ⟨Za5 _,Zak _,Za3 _,trivial⟩ ?_
  rw [Zad];simp only [ite_self]
  refine EvK.go 1000 ?_
  by_cases h1:z.2.2.2=0
  ·cases h2:z.2.2.1 with
   | true =>
    rw [if_neg (fun e=>e h1),h2,if_neg (by simp)] at hn
    have lw:lowL 0 (ints (u++[z.2.1])):=Za8 _
    rw [Zdp] at lw
    simp only [go_sem,h1,Zc3,appOk,List.mem_singleton,forall_eq,Nat.zero_lt_one,Zaj]
    refine ⟨by omega,fun h3=>?_,fun h3=>?_⟩
    ·rw [if_pos (by omega)] at hn
     subst hn
     refine EvK.go 1000 ?_
     simp only [go_sem,e0,Zbq]
    ·rw [if_neg (by omega)] at hn
     have hul:(u++[z.2.1]).length=u.length+1:=by simp
     refine ⟨⟨(z.1,u++[z.2.1]),hin h1,by rw [hul];omega,by rw [hul,show 201 - (u.length+1)=200 - u.length by omega];exact hn⟩,[(0,2),(2,0)],Zan rfl ?_,by simp only [hul];omega⟩
     simp only
     rw [Zdp,Zc7 (by simp),Zc8 (by simp),Zaj]
     simp only [go_sem,Za5,Za3,Zak,Za2 (Za5 _),Za2 (Za3 _),Za2 (Zak _),Za2 lw,Zab (Nat.zero_le _) lw]
   | false =>
    rw [if_neg (fun e=>e h1),h2,if_pos rfl] at hn
    subst hn
    simp only [go_sem,h1]
    refine EvK.go 1000 ?_
    simp only [go_sem,Zcv]
  ·rw [if_pos h1] at hn
   subst hn
   simp only [go_sem,h1,e0,Zbq]
   refine EvK.go 1000 ?_
   simp only [go_sem,e0,Zbq]
end Go.Proofs
namespace Go.Proofs
open Go Go.Abs
theorem Zuv (h k s:Int):∀ l:List (Int×Int),lookL (updL l k s) h=lookL l h+if h=k then s else 0
 | []=>by
  simp only [updL,lookL]
  by_cases e:h=k
  ·rw [if_pos e.symm,if_pos e];omega
  ·rw [if_neg (Ne.symm e),if_neg e];rfl
 | x :: r=>by
  have ih:=Zuv h k s r
  simp only [updL]
  split
  ·rename_i e
   simp only [lookL]
   by_cases e2:x.1=h
   ·rw [if_pos e2,if_pos e2,if_pos (by omega)]
   ·rw [if_neg e2,if_neg e2,if_neg (by omega)];omega
  ·rename_i e
   simp only [lookL]
   by_cases e2:x.1=h
   ·rw [if_pos e2,if_pos e2,if_neg (by omega)];omega
   ·rw [if_neg e2,if_neg e2,ih]
theorem Zmz (k s:Int):∀ (l:List (Int×Int)) (h:Int),h∈(updL l k s).map Prod.fst↔h=k∨h∈l.map Prod.fst
 | [],h=>by simp [updL]
 | x :: r,h=>by
  have ih:=Zmz k s r h
  simp only [updL]
  split
  ·rename_i e
   simp only [List.map_cons,List.mem_cons]
   rw [← e];constructor
   ·rintro (h1 | h1);exact .inl h1;exact .inr (.inr h1)
   ·rintro (h1 | h1 | h1);exact .inl h1;exact .inl h1;exact .inr h1
  ·simp only [List.map_cons,List.mem_cons,ih]
   constructor
   ·rintro (h1 | h1 | h1);exact .inr (.inl h1);exact .inl h1;exact .inr (.inr h1)
   ·rintro (h1 | h1 | h1);exact .inr (.inl h1);exact .inl h1;exact .inr (.inr h1)
theorem Zqn (k s:Int):∀ (l:List (Int×Int)),(l.map Prod.fst).Nodup→((updL l k s).map Prod.fst).Nodup
 | [],_=>by simp [updL]
 | x :: r,h=>by
  simp only [List.map_cons,List.nodup_cons] at h
  simp only [updL]
  split
  ·rename_i e
   simp only [List.map_cons,List.nodup_cons]
   exact h
  ·rename_i e
   simp only [List.map_cons,List.nodup_cons]
   refine ⟨fun hm=>?_,Zqn k s r h.2⟩
   rcases (Zmz k s r x.1).1 hm with h1 | h1
   ·exact e h1
   ·exact h.1 h1
def tabL (l:List (Int×Int)):Prop:=(l.map Prod.fst).Nodup∧∀ h∈l.map Prod.fst,h<0
theorem Zvi {l:List (Int×Int)}:∀ (_:(l.map Prod.fst).Nodup) (x:Int×Int),x∈l→lookL l x.1=x.2:=by
 induction l with
 | nil=>intro _ x h;cases h
 | cons a l ih =>
  intro hn x hx
  simp only [List.map_cons,List.nodup_cons] at hn
  simp only [lookL]
  rcases List.mem_cons.1 hx with rfl | hx
  ·rw [if_pos rfl]
  ·rw [if_neg (fun e:a.1=x.1=>hn.1 (by rw [e];exact List.mem_map_of_mem hx))]
   exact ih hn.2 x hx
theorem Yb9 {l:List (Int×Int)} {h:Int}:h ∉ l.map Prod.fst→lookL l h=0:=by
 induction l with
 | nil=>intro _;rfl
 | cons a l ih =>
  intro hn
  simp only [List.map_cons,List.mem_cons,not_or] at hn
  simp only [lookL]
  rw [if_neg (Ne.symm hn.1)]
  exact ih hn.2
theorem Zv7 {l:List (Int×Int)} (hl:tabL l) (p:Int→Bool) (hp:p 0=false):(l.map Prod.snd).any p=true↔∃ h,h<0∧p (lookL l h)=true:=by
 rw [List.any_eq_true]
 constructor
 ·rintro ⟨y,hy,hpy⟩
  obtain ⟨x,hx,rfl⟩:=List.mem_map.1 hy
  exact ⟨x.1,hl.2 _ (List.mem_map_of_mem hx),by rw [Zvi hl.1 x hx];exact hpy⟩
 ·rintro ⟨h,_,hph⟩
  by_cases hm:h∈l.map Prod.fst
  ·obtain ⟨x,hx,rfl⟩:=List.mem_map.1 hm
   exact ⟨x.2,List.mem_map_of_mem hx,by rw [← Zvi hl.1 x hx];exact hph⟩
  ·rw [Yb9 hm,hp] at hph;cases hph
mutual
theorem Zna (g:List Sy) (s:Int):∀ (t:Tm) (x:Int×List (Int×Int)),t.good=true→tabL x.2→(ldT g s t x).1=x.1+s*t.wgt g∧tabL (ldT g s t x).2∧∀ h,h<0→lookL (ldT g s t x).2 h=lookL x.2 h+s*(t.cv (-1 - h):Int)
 | .mk k ts,x,hg,hx=>by
  obtain ⟨g1,g2,g3,g4⟩:=Zcz hg
  simp only [Tm.head,Tm.args] at g1 g2 g3 g4
  rw [ldT,Tm.wgt]
  by_cases hn:k<0
  ·rw [if_pos hn,if_pos hn]
   have hts:=g4 hn
   refine ⟨by simp only;omega,⟨Zqn k s _ hx.1,fun h hm=>?_⟩,fun h hh=>?_⟩
   ·rcases (Zmz k s _ h).1 hm with rfl | hm
    ·exact hn
    ·exact hx.2 h hm
   ·simp only
    rw [Zuv,Tm.cv,hts,Tm.cvs]
    by_cases e:h=k
    ·rw [if_pos e,if_pos (by omega)];simp
    ·rw [if_neg e,if_neg (by omega)];simp
  ·rw [if_neg hn,if_neg hn]
   have hga:Tm.goods ts=true:=by rw [Tm.good,Bool.and_eq_true] at hg;exact hg.2
   obtain ⟨a1,a2,a3⟩:=Zqh g s ts (x.1+s*wtOf g k,x.2) hga hx
   refine ⟨?_,a2,fun h hh=>?_⟩
   ·rw [a1]
    have:=Zmy g ts 0 (wtOf g k)
    rw [Int.zero_add] at this
    rw [this,Int.mul_add]
    simp only;omega
   ·rw [a3 h hh,Tm.cv,if_neg (by omega),Nat.zero_add]
theorem Zqh (g:List Sy) (s:Int):∀ (ts:List Tm) (x:Int×List (Int×Int)),Tm.goods ts=true→tabL x.2→(ldTs g s ts x).1=x.1+s*Tm.wgts g ts 0∧tabL (ldTs g s ts x).2∧∀ h,h<0→lookL (ldTs g s ts x).2 h=lookL x.2 h+s*(Tm.cvs (-1 - h) ts:Int)
 | [],x,_,hx=>by
  rw [ldTs]
  exact ⟨by simp [Tm.wgts],hx,fun h _=>by simp [Tm.cvs]⟩
 | t :: ts,x,hg,hx=>by
  rw [Tm.goods,Bool.and_eq_true] at hg
  rw [ldTs]
  obtain ⟨a1,a2,a3⟩:=Zna g s t x hg.1 hx
  obtain ⟨b1,b2,b3⟩:=Zqh g s ts _ hg.2 a2
  refine ⟨?_,b2,fun h hh=>?_⟩
  ·rw [b1,a1,Tm.wgts]
   have:=Zmy g ts 0 (t.wgt g)
   rw [this,Int.mul_add];omega
  ·rw [b3 h hh,a3 h hh,Tm.cvs]
   push_cast
   rw [Int.mul_add];omega
end
theorem Zn6 (g:List Sy) {t u:Tm} (ht:t.good=true) (hu:u.good=true):(ldD g t u).1=t.wgt g - u.wgt g∧tabL (ldD g t u).2∧∀ h,h<0→lookL (ldD g t u).2 h=(t.cv (-1 - h):Int) - u.cv (-1 - h):=by
 have h0:tabL ([]:List (Int×Int)):=⟨by simp,fun h hh=>by simp at hh⟩
 obtain ⟨a1,a2,a3⟩:=Zna g 1 t (0,[]) ht h0
 obtain ⟨b1,b2,b3⟩:=Zna g (-1) u _ hu a2
 unfold ldD
 refine ⟨by rw [b1,a1];simp only;omega,b2,fun h hh=>?_⟩
 rw [b3 h hh,a3 h hh]
 simp only [lookL];omega
mutual
theorem Yeo {v:Int} (hv : 0≤v):∀ t:Tm,t.allV (fun w=>w≠v)→t.cv v=0
 | .mk h ts,ha=>by
  rw [Tm.cv,Zve hv ts ha.2]
  by_cases e:h = -1 - v
  ·exact absurd (by omega) (ha.1 (by omega))
  ·rw [if_neg e]
theorem Zve {v:Int} (hv : 0≤v):∀ ts:List Tm,Tm.allVs (fun w=>w≠v) ts→Tm.cvs v ts=0
 | [],_=>rfl
 | t :: ts,ha=>by rw [Tm.cvs,Yeo hv t ha.1,Zve hv ts ha.2]
end
theorem Yuk {v:Int} (hv : 0≤v) {t:Tm} (h:v ∉ t.vars):t.cv v=0 :=
 Yeo hv t ((Zfu t).1 fun w hw e=>h (e ▸ hw))
theorem Zpe (a b:Tm):oftenD a b=true↔∀ v,0≤v→b.cv v≤a.cv v:=by
 unfold oftenD
 rw [List.all_eq_true]
 constructor
 ·intro h v hv
  by_cases hm:v∈b.vars
  ·exact of_decide_eq_true (h v hm)
  ·rw [Yuk hv hm];exact Nat.zero_le _
 ·intro h v hm
  exact decide_eq_true (h v (Zkz b v hm))
theorem Zwu {g:List Sy} {t u:Tm} (ht:t.good=true) (hu:u.good=true):(((ldD g t u).2.map Prod.snd).any fun n=>decide (n<0)) = !oftenD t u:=by
 obtain ⟨_,h2,h3⟩:=Zn6 g ht hu
 have h:=Zv7 h2 (fun n=>decide (n<0)) rfl
 rw [Bool.eq_iff_iff,h,Bool.not_eq_true',← Bool.not_eq_true,Zpe]
 constructor
 ·rintro ⟨k,hk,hp⟩ hall
  have:=hall (-1 - k) (by omega)
  have hp:=of_decide_eq_true hp
  rw [h3 k hk] at hp
  omega
 ·intro hn
  obtain ⟨v,hv⟩:=Classical.not_forall.1 hn
  obtain ⟨hv0,hv1⟩:=Classical.not_imp.1 hv
  refine ⟨-1 - v,by omega,decide_eq_true ?_⟩
  rw [h3 _ (by omega),show -1 - (-1 - v)=v by omega]
  omega
theorem Zwr {g:List Sy} {t u:Tm} (ht:t.good=true) (hu:u.good=true):(((ldD g t u).2.map Prod.snd).any fun n=>decide (0<n)) = !oftenD u t:=by
 obtain ⟨_,h2,h3⟩:=Zn6 g ht hu
 have h:=Zv7 h2 (fun n=>decide (0<n)) rfl
 rw [Bool.eq_iff_iff,h,Bool.not_eq_true',← Bool.not_eq_true,Zpe]
 constructor
 ·rintro ⟨k,hk,hp⟩ hall
  have:=hall (-1 - k) (by omega)
  have hp:=of_decide_eq_true hp
  rw [h3 k hk] at hp
  omega
 ·intro hn
  obtain ⟨v,hv⟩:=Classical.not_forall.1 hn
  obtain ⟨hv0,hv1⟩:=Classical.not_imp.1 hv
  refine ⟨-1 - v,by omega,decide_eq_true ?_⟩
  rw [h3 _ (by omega),show -1 - (-1 - v)=v by omega]
  omega
theorem Yke {g:List Sy} {t u:Tm} (ht:t.good=true) (hu:u.good=true) (n:Int):sdL (ldD g t u) n=sideF n (!oftenD u t) (!oftenD t u):=by
 unfold sdL;rw [Zwu ht hu,Zwr ht hu]
theorem Yld {g:List Sy} {t u:Tm} (ht:t.good=true) (hu:u.good=true) {n:Int}:sdL (ldD g t u) n=1↔0<n∧oftenD t u=true:=by
 rw [Yke ht hu];unfold sideF
 by_cases h1 : 0<n∧(!oftenD t u)=false
 ·rw [if_pos h1];simpa using h1
 ·rw [if_neg h1]
  simp only [Bool.not_eq_false'] at h1
  split<;>(constructor<;>intro h<;>first | omega | exact absurd h h1)
theorem Ylg {g:List Sy} {t u:Tm} (ht:t.good=true) (hu:u.good=true) {n:Int}:sdL (ldD g t u) n = -1↔n<0∧oftenD u t=true:=by
 rw [Yke ht hu];unfold sideF
 by_cases h1 : 0<n∧(!oftenD t u)=false
 ·rw [if_pos h1]
  constructor
  ·intro h;omega
  ·intro h;omega
 ·rw [if_neg h1]
  by_cases h2:n<0∧(!oftenD u t)=false
  ·rw [if_pos h2];simpa using h2
  ·rw [if_neg h2]
   simp only [Bool.not_eq_false'] at h2
   constructor
   ·intro h;omega
   ·intro h;exact absurd h h2
theorem Yau (x:Int×List (Int×Int)) (n:Int):sdL x n≠0:=by
 unfold sdL sideF
 split
 ·omega
 split<;>omega
theorem Zon (g:List Sy) (t u:Tm):standF g t u=if t=u then 0 else if (ldD g t u).1≠0 then sdL (ldD g t u) (ldD g t u).1 else
  if t.head<0∨u.head<0 then 2 else if t.head≠u.head then sdL (ldD g t u) (t.head - u.head) else standA g (ldD g t u) t.args u.args:=by
 cases t;rw [standF];rfl
theorem Yws (g:List Sy) (t u:Tm):t.gr g u=if oftenD t u=false then false else if t.wgt g≠u.wgt g then decide (u.wgt g<t.wgt g) else if t.head<0∨u.head<0 then false else if t.head≠u.head then decide (u.head<t.head) else Tm.grL g t.args u.args:=by
 cases t;rw [Tm.gr];rfl
theorem Yan {t u:Tm} (h1:t.head=u.head) (h2:t.args=u.args):t=u:=by
 cases t;cases u;simp only [Tm.head,Tm.args] at h1 h2;rw [h1,h2]
theorem Znm (x:Int×List (Int×Int)) (n:Int):sdL x n=1∨sdL x n = -1∨sdL x n=2:=by
 unfold sdL sideF
 split
 ·exact .inl rfl
 split
 ·exact .inr (.inl rfl)
 ·exact .inr (.inr rfl)
theorem Zl8 (g:List Sy) (x:Int×List (Int×Int)):∀ ts us:List Tm,standA g x ts us=0∨standA g x ts us=1∨standA g x ts us = -1∨standA g x ts us=2
 | [],_=>by rw [standA];simp
 | _ :: _,[]=>by rw [standA];simp
 | t :: ts,u :: us=>by
  rw [standA]
  split
  ·split
   ·exact .inr (.inr (.inr rfl))
   ·exact .inr (Znm _ _)
  ·exact Zl8 g x ts us
theorem Zmg (g:List Sy) (t u:Tm):standF g t u=0∨standF g t u=1∨standF g t u = -1∨standF g t u=2:=by
 rw [Zon]
 split
 ·exact .inl rfl
 split
 ·exact .inr (Znm _ _)
 split
 ·exact .inr (.inr (.inr rfl))
 split
 ·exact .inr (Znm _ _)
 ·exact Zl8 _ _ _ _
def agree (g:List Sy) (t u:Tm):Prop:=(standF g t u=1↔t.gr g u=true)∧(standF g t u = -1↔u.gr g t=true)∧(standF g t u=0↔t=u)
theorem Zii {g:List Sy} {x y:Tm} (hx:x.good=true) (hy:y.good=true):∀ (ts us:List Tm),ts.length=us.length→(∀ t∈ts, ∀ u∈us,agree g t u) →
  (standA g (ldD g x y) ts us=1↔Tm.grL g ts us=true∧oftenD x y=true)∧(standA g (ldD g x y) ts us = -1↔Tm.grL g us ts=true∧oftenD y x=true)∧(standA g (ldD g x y) ts us=0↔ts=us)
 | [],[],_,_=>by
  rw [standA,Tm.grL]
  exact ⟨⟨fun h=>by omega,fun h=>by cases h.1⟩,⟨fun h=>by omega,fun h=>by cases h.1⟩,by simp⟩
 | t :: ts,u :: us,hl,h=>by
  obtain ⟨a1,a2,a3⟩:=h t (by simp) u (by simp)
  have ih:=Zii hx hy ts us (by simpa using hl) (fun a ha b hb=>h a (by simp [ha]) b (by simp [hb]))
  rw [standA,Tm.grL,Tm.grL]
  by_cases e:t=u
  ·rw [if_neg (fun hn=>hn (a3.2 e)),if_pos e,if_pos e.symm]
   refine ⟨ih.1,ih.2.1,?_⟩
   rw [ih.2.2,e];simp
  ·have hne:standF g t u≠0:=fun h0=>e (a3.1 h0)
   rw [if_pos hne,if_neg e,if_neg (Ne.symm e)]
   by_cases h2:standF g t u=2
   ·rw [if_pos h2]
    refine ⟨⟨fun h=>by omega,fun h=>?_⟩,⟨fun h=>by omega,fun h=>?_⟩,⟨fun h=>by omega,fun h=>?_⟩⟩
    ·have:=a1.2 h.1;omega
    ·have:=a2.2 h.1;omega
    ·exact absurd (List.cons.inj h).1 e
   ·rw [if_neg h2]
    refine ⟨?_,?_,⟨fun h=>absurd h (Yau _ _),fun h=>absurd (List.cons.inj h).1 e⟩⟩
    ·rw [Yld hx hy,← a1]
     constructor
     ·rintro ⟨h3,h4⟩
      refine ⟨?_,h4⟩
      rcases Zmg g t u with h5 | h5 | h5 | h5<;>omega
     ·rintro ⟨h3,h4⟩;exact ⟨by omega,h4⟩
    ·rw [Ylg hx hy,← a2]
     constructor
     ·rintro ⟨h3,h4⟩
      refine ⟨?_,h4⟩
      rcases Zmg g t u with h5 | h5 | h5 | h5<;>omega
     ·rintro ⟨h3,h4⟩;exact ⟨by omega,h4⟩
def grR (g:List Sy) (t u:Tm):Bool:=if t.wgt g≠u.wgt g then decide (u.wgt g<t.wgt g) else if t.head<0∨u.head<0 then false else if t.head≠u.head then decide (u.head<t.head) else Tm.grL g t.args u.args
theorem Yka (g:List Sy) (t u:Tm):t.gr g u=(oftenD t u&&grR g t u):=by
 rw [Yws];unfold grR
 cases oftenD t u<;>simp
theorem Zwa (g:List Sy):∀ l:List Tm,Tm.grL g l l=false
 | []=>rfl
 | a :: l=>by rw [Tm.grL,if_pos rfl];exact Zwa g l
theorem Zka (g:List Sy):∀ (n:Nat) (t u:Tm),t.size≤n→rtT g t→rtT g u→agree g t u
 | 0,t,_,h,_,_=>by have:=Zd1 t;omega
 | n+1,t,u,hn,ht,hu=>by
  have gt:=(Zbc (Zbh ht.1).1).2.2
  have gu:=(Zbc (Zbh hu.1).1).2.2
  have hW:=(Zn6 g gt gu).1
  unfold agree
  rw [Zon,Yka g t u,Yka g u t]
  by_cases e:t=u
  ·subst e
   rw [if_pos rfl]
   have key:grR g t t=false:=by
    unfold grR
    rw [if_neg (fun h=>h rfl),if_neg (fun h=>h rfl:¬ t.head≠t.head),Zwa]
    split<;>rfl
   rw [key,Bool.and_false]
   exact ⟨⟨fun h=>by omega,fun h=>by cases h⟩,⟨fun h=>by omega,fun h=>by cases h⟩,by simp⟩
  ·rw [if_neg e]
   by_cases c1:t.wgt g=u.wgt g
   ·rw [if_neg (by omega)]
    have r1:grR g t u=if t.head<0∨u.head<0 then false else if t.head≠u.head then decide (u.head<t.head) else Tm.grL g t.args u.args:=by unfold grR;rw [if_neg (fun h=>h c1)]
    have r2:grR g u t=if u.head<0∨t.head<0 then false else if u.head≠t.head then decide (t.head<u.head) else Tm.grL g u.args t.args:=by unfold grR;rw [if_neg (fun h=>h c1.symm)]
    by_cases c2:t.head<0∨u.head<0
    ·rw [if_pos c2] at r1 ⊢
     rw [if_pos c2.symm] at r2
     rw [r1,r2,Bool.and_false,Bool.and_false]
     exact ⟨⟨fun h=>by omega,fun h=>by cases h⟩,⟨fun h=>by omega,fun h=>by cases h⟩,⟨fun h=>by omega,fun h=>absurd h e⟩⟩
    ·rw [if_neg c2] at r1 ⊢
     rw [if_neg (fun h=>c2 h.symm)] at r2
     by_cases c3:t.head=u.head
     ·rw [if_neg (fun h=>h c3)] at r1 ⊢
      rw [if_neg (fun h=>h c3.symm)] at r2
      have hl:=Ykg ht hu (by omega) c3
      have hA:=Zii (g:=g) gt gu t.args u.args hl (fun a ha b hb=>Zka g n a b (by have:=Zbe ha;have:=Zau t;omega) (Zfw t ht a ha) (Zfw u hu b hb))
      rw [r1,r2,Bool.and_eq_true,Bool.and_eq_true]
      refine ⟨?_,?_,?_⟩
      ·rw [hA.1];exact And.comm
      ·rw [hA.2.1];exact And.comm
      ·rw [hA.2.2]
       exact ⟨fun h=>Yan c3 h,fun h=>absurd h e⟩
     ·rw [if_pos c3] at r1 ⊢
      rw [if_pos (Ne.symm c3)] at r2
      rw [r1,r2,Bool.and_eq_true,Bool.and_eq_true,decide_eq_true_eq,decide_eq_true_eq]
      refine ⟨?_,?_,⟨fun h=>absurd h (Yau _ _),fun h=>absurd h e⟩⟩
      ·rw [Yld gt gu];exact ⟨fun h=>⟨h.2,by omega⟩,fun h=>⟨by omega,h.1⟩⟩
      ·rw [Ylg gt gu];exact ⟨fun h=>⟨h.2,by omega⟩,fun h=>⟨by omega,h.1⟩⟩
   ·rw [if_pos (by omega)]
    have r1:grR g t u=decide (u.wgt g<t.wgt g):=by unfold grR;rw [if_pos c1]
    have r2:grR g u t=decide (t.wgt g<u.wgt g):=by unfold grR;rw [if_pos (Ne.symm c1)]
    rw [r1,r2,Bool.and_eq_true,Bool.and_eq_true,decide_eq_true_eq,decide_eq_true_eq]
    refine ⟨?_,?_,⟨fun h=>absurd h (Yau _ _),fun h=>absurd h e⟩⟩
    ·rw [Yld gt gu,hW];exact ⟨fun h=>⟨h.2,by omega⟩,fun h=>⟨by omega,h.1⟩⟩
    ·rw [Ylg gt gu,hW];exact ⟨fun h=>⟨h.2,by omega⟩,fun h=>⟨by omega,h.1⟩⟩
theorem Zuw {g:List Sy} {t u:Tm} (ht:rtT g t) (hu:rtT g u):decide (standF g t u=1)=t.gr g u:=by
 have:=(Zka g _ t u (Nat.le_refl _) ht hu).1
 rw [Bool.eq_iff_iff,decide_eq_true_eq];exact this
section
variable {α:Type} (same : α→α→Bool)
def rmL (x : α):List α→Option (List α)
 | []=>none
 | y :: b=>if same x y=true then some b else (rmL x b).map (y :: ·)
def restR:List α→List α→List α
 | [],_=>[]
 | x :: a,b=>match rmL same x b with
  | none=>x :: restR a b
  | some b'=>restR a b'
def keepL:List α→List Bool→List α
 | y :: b,u :: us=>if u=true then keepL b us else y :: keepL b us
 | _,_=>[]
theorem Ydy (y : α) (b:List α) (us:List Bool):keepL (y :: b) (false :: us)=y :: keepL b us:=by rw [keepL];exact if_neg (by simp)
theorem Zp3:∀ b:List α,keepL b (List.replicate b.length false)=b
 | []=>rfl
 | y :: b=>by rw [List.length_cons,List.replicate_succ,keepL,if_neg (by simp),Zp3 b]
def fkL (x : α):List α→List Bool→Nat→Option Nat
 | y :: b,u :: us,k=>if (!u&&same x y)=true then some k else fkL x b us (k+1)
 | _,_,_=>none
theorem Yk5 {b0:List α} {us0:List Bool} (hl:us0.length=b0.length) (x : α):∀ (n k:Nat),b0.length - k=n→k≤b0.length→fk (woP same b0 us0 x) n k=fkL same x (b0.drop k) (us0.drop k) k
 | 0,k,h,hk=>by
  have:k=b0.length:=by omega
  subst this
  rw [fk,List.drop_length]
  cases us0.drop b0.length<;>rfl
 | n+1,k,h,hk=>by
  have h1:k<b0.length:=by omega
  have h2:k<us0.length:=by omega
  have hg:us0.getD k false=us0[k]:=by simp [List.getD,h2]
  rw [fk,Yf7 h1,hg,List.drop_eq_getElem_cons h1,List.drop_eq_getElem_cons h2,fkL,Yk5 hl x n (k+1) (by omega) (by omega)]
theorem Yk7 (x : α):∀ (b:List α) (us:List Bool) (k:Nat),us.length=b.length→(fkL same x b us k=none→rmL same x (keepL b us)=none)∧∀ j,fkL same x b us k=some j→k≤j∧rmL same x (keepL b us)=some (keepL b (us.set (j - k) true))
 | [],us,k,_=>by
  cases us<;>exact ⟨fun _=>rfl,fun j h=>by cases h⟩
 | y :: b,[],k,h=>by simp at h
 | y :: b,u :: us,k,h=>by
  obtain ⟨i1,i2⟩:=Yk7 x b us (k+1) (by simpa using h)
  rw [fkL]
  cases u with
  | true =>
   simp only [Bool.not_true,Bool.false_and,Bool.false_eq_true,if_false]
   rw [keepL,if_pos rfl]
   refine ⟨i1,fun j hj=>?_⟩
   obtain ⟨j1,j2⟩:=i2 j hj
   refine ⟨by omega,?_⟩
   rw [j2,show j - k=(j - (k+1))+1 by omega,List.set_cons_succ,keepL,if_pos rfl]
  | false =>
   simp only [Bool.not_false,Bool.true_and]
   rw [Ydy,rmL]
   cases hs:same x y with
   | true =>
    simp only [if_true]
    refine ⟨fun h=>(by cases h),fun j hj=>?_⟩
    cases hj
    refine ⟨Nat.le_refl _,?_⟩
    rw [Nat.sub_self,List.set_cons_zero,keepL,if_pos rfl]
   | false =>
    simp only [Bool.false_eq_true,if_false]
    refine ⟨fun h=>by rw [i1 h];rfl,fun j hj=>?_⟩
    obtain ⟨j1,j2⟩:=i2 j hj
    refine ⟨by omega,?_⟩
    rw [j2,show j - k=(j - (k+1))+1 by omega,List.set_cons_succ,Ydy];rfl
theorem Zs0 (b0:List α):∀ (a:List α) (us:List Bool),us.length=b0.length→woL same b0 a us=restR same a (keepL b0 us)
 | [],_,_=>by rw [woL,restR]
 | x :: a,us,hl=>by
  rw [woL,restR]
  have e1:=Yk5 same hl x b0.length 0 (by omega) (Nat.zero_le _)
  rw [List.drop_zero,List.drop_zero] at e1
  obtain ⟨h1,h2⟩:=Yk7 same x b0 us 0 hl
  rw [e1]
  cases hf:fkL same x b0 us 0 with
  | none=>rw [h1 hf];simp only;rw [Zs0 b0 a us hl]
  | some k =>
   rw [(h2 k hf).2]
   simp only [Nat.sub_zero]
   rw [Zs0 b0 a (us.set k true) (by rw [List.length_set];exact hl)]
theorem Zj3 (a b:List α):woL same b a (List.replicate b.length false)=restR same a b:=by
 rw [Zs0 same b a _ (by simp),Zp3]
theorem Yd4 (x : α):∀ (b:List α) (n:Int),0≤n→(idxF (fun y=>same x y) b n<0→rmL same x b=none)∧(¬ idxF (fun y=>same x y) b n<0→n≤idxF (fun y=>same x y) b n∧rmL same x b=some (b.take (idxF (fun y=>same x y) b n - n).toNat++b.drop ((idxF (fun y=>same x y) b n - n).toNat+1)))
 | [],n,_=>by rw [idxF];exact ⟨fun _=>rfl,fun h=>by omega⟩
 | y :: b,n,hn=>by
  obtain ⟨i1,i2⟩:=Yd4 x b (n+1) (by omega)
  rw [idxF,rmL]
  cases hs:same x y with
  | true =>
   simp only [if_true]
   refine ⟨fun h=>by omega,fun _=>⟨Int.le_refl _,?_⟩⟩
   rw [Int.sub_self];rfl
  | false =>
   simp only [Bool.false_eq_true,if_false]
   refine ⟨fun h=>by rw [i1 h];rfl,fun h=>?_⟩
   obtain ⟨j1,j2⟩:=i2 h
   refine ⟨by omega,?_⟩
   rw [j2,show (idxF (fun y=>same x y) b (n+1) - n).toNat=(idxF (fun y=>same x y) b (n+1) - (n+1)).toNat+1 by omega,List.take_succ_cons,List.drop_succ_cons];rfl
end
theorem Zj1:∀ a b:List Li,restC a b=restR sameL a b
 | [],_=>by rw [restC,restR]
 | x :: a,b=>by
  rw [restC,restR]
  obtain ⟨h1,h2⟩:=Yd4 sameL x b 0 (Int.le_refl _)
  split
  ·rename_i h;rw [h1 h];simp only;rw [Zj1 a b]
  ·rename_i h;rw [(h2 h).2,Int.sub_zero];simp only;rw [Zj1 a];rfl
theorem Zjc:∀ a b:List Tm,restF a b=restR eqT a b
 | [],_=>by rw [restF,restR]
 | x :: a,b=>by
  rw [restF,restR]
  obtain ⟨h1,h2⟩:=Yd4 eqT x b 0 (Int.le_refl _)
  have he:(fun y=>decide (x=y))=fun y=>eqT x y:=rfl
  rw [he]
  split
  ·rename_i h;rw [h1 h];simp only;rw [Zjc a b]
  ·rename_i h;rw [(h2 h).2,Int.sub_zero];simp only;rw [Zjc a];rfl
theorem Zeh {α:Type} (same : α→α→Bool):∀ (a b:List α), ∀ x∈restR same a b,x∈a
 | [],_,x,h=>by rw [restR] at h;cases h
 | y :: a,b,x,h=>by
  rw [restR] at h
  split at h
  ·rcases List.mem_cons.1 h with rfl | h
   ·simp
   ·exact List.mem_cons_of_mem _ (Zeh same a b x h)
  ·exact List.mem_cons_of_mem _ (Zeh same a _ x h)
theorem Zqy {α:Type} {f h : α→α→Bool} {a b:List α} (he:∀ x∈a, ∀ y∈b,f x y=h x y):ovD f a b=ovD h a b:=by
 have:∀ (b:List α),(∀ x∈a, ∀ y∈b,f x y=h x y)→(b.all fun y=>a.any fun x=>f x y)=b.all fun y=>a.any fun x=>h x y:=by
  intro b
  induction b with
  | nil=>intro _;rfl
  | cons y b ih =>
   intro hb
   rw [List.all_cons,List.all_cons,ih fun x hx z hz=>hb x hx z (by simp [hz])]
   congr 1
   have:∀ l:List α,(∀ x∈l,f x y=h x y)→(l.any fun x=>f x y)=l.any fun x=>h x y:=by
    intro l
    induction l with
    | nil=>intro _;rfl
    | cons z l ihl=>intro hz;rw [List.any_cons,List.any_cons,hz z (by simp),ihl fun x hx=>hz x (by simp [hx])]
   exact this a fun x hx=>hb x hx y (by simp)
 unfold ovD;rw [this b he]
theorem Zl7 {α:Type} (p : α→Bool):∀ b:List α,(!b.any fun y=>!p y)=b.all p
 | []=>rfl
 | y :: b=>by
  rw [List.any_cons,List.all_cons,← Zl7 p b]
  cases p y<;>simp
theorem Zw8 {g:List Sy} {a b:List Tm} (ha:∀ x∈a,rtT g x) (hb:∀ x∈b,rtT g x):overF g a b=ovD (Tm.gr g) a b:=by
 have h1:overF g a b=ovD (fun x y=>decide (standF g x y=1)) a b:=by
  unfold overF ovD
  rw [Zl7 (fun y=>beats g a y),Bool.and_comm];rfl
 rw [h1]
 exact Zqy fun x hx y hy=>Zuw (ha x hx) (hb y hy)
theorem Zzo {g:List Sy} {a b:List Tm} (ha:∀ x∈a,rtT g x) (hb:∀ x∈b,rtT g x):multiF g a b=msC eqT (Tm.gr g) a b:=by
 unfold multiF msC
 have m1:∀ x∈restR eqT a b,rtT g x:=fun x hx=>ha x (Zeh eqT a b x hx)
 have m2:∀ x∈restR eqT b a,rtT g x:=fun x hx=>hb x (Zeh eqT b a x hx)
 rw [Zjc,Zjc,Zj3,Zj3,Zw8 m1 m2,Zw8 m2 m1]
theorem Ytc {g:List Sy} {a b:Li} (ha:a.check g=0) (hb:b.check g=0) (ra:rtL g a) (rb:rtL g b):gtL g a b=decide (st9 g a b=1):=by
 unfold gtL cmpL st9
 rw [if_neg (fun h=>h ha),if_neg (fun h=>h hb),Zzo (Znh ra) (Znh rb)]
 simp
theorem Zuu (g:List Sy) (a:List Li):∀ b:List Li,overC g a b=ovD (gtL g) a b
 | []=>by rw [overC];simp [ovD]
 | y :: b=>by
  rw [overC,Znq,Zuu g a b]
  cases a.any fun x=>gtL g x y<;>simp
theorem Zvv {g:List Sy} {a b:List Li} (ha:∀ x∈a,x.check g=0∧rtL g x) (hb:∀ x∈b,x.check g=0∧rtL g x):overC g a b=ovD (fun x y=>decide (st9 g x y=1)) a b:=by
 rw [Zuu]
 exact Zqy fun x hx y hy=>Ytc (ha x hx).1 (hb y hy).1 (ha x hx).2 (hb y hy).2
theorem Ye2 {g:List Sy} {c:List Li} (h:rtC g c):∀ x∈c,x.check g=0∧rtL g x:=fun x hx=>⟨(Zcp h.1).2.2 x hx,Zdh h hx⟩
theorem Ymc {g:List Sy} {a b:List Li} (ha:rtC g a) (hb:rtC g b):cmpC g a b=(st10 g a b,0):=by
 unfold cmpC st10 msC
 have m1:∀ x∈restR sameL a b,x.check g=0∧rtL g x:=fun x hx=>Ye2 ha x (Zeh sameL a b x hx)
 have m2:∀ x∈restR sameL b a,x.check g=0∧rtL g x:=fun x hx=>Ye2 hb x (Zeh sameL b a x hx)
 rw [if_neg (fun h=>h ha.1),if_neg (fun h=>h hb.1),Zj1,Zj1,Zj3,Zj3,Zvv m1 m2,Zvv m2 m1]
 split
 ·rfl
 split
 ·rfl
 split
 ·rfl
 ·rfl
mutual
def Tm.ap (f:Int→Tm):Tm→Tm
 | .mk h ts=>if h<0 then f (-1 - h) else .mk h (Tm.apL f ts)
def Tm.apL (f:Int→Tm):List Tm→List Tm
 | []=>[]
 | t :: ts=>t.ap f :: Tm.apL f ts
end
theorem Zjw (f:Int→Tm):∀ ts,Tm.apL f ts=ts.map (Tm.ap f)
 | []=>rfl
 | t :: ts=>by simp [Tm.apL,Zjw f ts]
theorem Zu9 {f:Int→Tm} {t:Tm} (h:t.head<0):t.ap f=f (-1 - t.head):=by
 cases t;rw [Tm.ap];exact if_pos h
theorem Zwe {f:Int→Tm} {t:Tm} (h:¬ t.head<0):t.ap f = .mk t.head (t.args.map (Tm.ap f)):=by
 cases t;rw [Tm.ap,Zjw];exact if_neg h
mutual
theorem Yfo (bs:List Bd):∀ t:Tm,t.pd bs=t.ap (ofB bs)
 | .mk h ts=>by rw [Tm.pd,Tm.ap,Ykl bs ts]
theorem Ykl (bs:List Bd):∀ ts:List Tm,Tm.pdL bs ts=Tm.apL (ofB bs) ts
 | []=>rfl
 | t :: ts=>by rw [Tm.pdL,Tm.apL,Yfo bs t,Ykl bs ts]
end
mutual
theorem Yko (bs:List Bd):∀ t:Tm,t.good=true→t.sub bs=t.ap (ofB bs)
 | .mk h ts,hg=>by
  have ha:=Zcr hg
  have hh:=(Zcz hg).2.2.2
  simp only [Tm.head,Tm.args] at ha hh
  rw [Tm.sub,Tm.ap,Yck bs ts ha]
  split
  ·rename_i hn
   rw [hh hn]
   unfold subOf ofB
   simp only [Tm.head]
   rw [show -1 - (-1 - h)=h by omega]
  ·rfl
theorem Yck (bs:List Bd):∀ ts:List Tm,(∀ t∈ts,t.good=true)→Tm.subL bs ts=Tm.apL (ofB bs) ts
 | [],_=>rfl
 | t :: ts,h=>by rw [Tm.subL,Tm.apL,Yko bs t (h t (by simp)),Yck bs ts fun x hx=>h x (by simp [hx])]
end
mutual
theorem Zny {f k:Int→Tm}:∀ t:Tm,t.allV (fun v=>f v=k v)→t.ap f=t.ap k
 | .mk h ts,hv=>by
  rw [Tm.allV] at hv
  rw [Tm.ap,Tm.ap,Zrg ts hv.2]
  split
  ·rename_i hn;exact hv.1 hn
  ·rfl
theorem Zrg {f k:Int→Tm}:∀ ts:List Tm,Tm.allVs (fun v=>f v=k v) ts→Tm.apL f ts=Tm.apL k ts
 | [],_=>rfl
 | t :: ts,hv=>by
  rw [Tm.allVs] at hv
  rw [Tm.apL,Tm.apL,Zny t hv.1,Zrg ts hv.2]
end
mutual
theorem Ykb {f k:Int→Tm}:∀ t:Tm,t.good=true→t.ap f=t.ap k→t.allV (fun v=>f v=k v)
 | .mk h ts,hg,he=>by
  have ha:=Zcr hg
  have hh:=(Zcz hg).2.2.2
  simp only [Tm.head,Tm.args] at ha hh
  rw [Tm.ap,Tm.ap] at he
  rw [Tm.allV]
  by_cases hn:h<0
  ·rw [if_pos hn,if_pos hn] at he
   exact ⟨fun _=>he,by rw [hh hn];trivial⟩
  ·rw [if_neg hn,if_neg hn] at he
   injection he with _ he
   exact ⟨fun h=>absurd h hn,Yc9 ts ha he⟩
theorem Yc9 {f k:Int→Tm}:∀ ts:List Tm,(∀ t∈ts,t.good=true)→Tm.apL f ts=Tm.apL k ts→Tm.allVs (fun v=>f v=k v) ts
 | [],_,_=>trivial
 | t :: ts,hg,he=>by
  rw [Tm.apL,Tm.apL] at he
  injection he with h1 h2
  exact ⟨Ykb t (hg t (by simp)) h1,Yc9 ts (fun x hx=>hg x (by simp [hx])) h2⟩
end
theorem Zkw {α β:Type} (k : α→β):∀ (a:List α), ∀ p∈a.zip (a.map k),k p.1=p.2
 | x :: a,p,h=>by
  rw [List.map_cons,List.zip_cons_cons] at h
  rcases List.mem_cons.1 h with rfl | h
  ·rfl
  ·exact Zkw k a p h
theorem Zkc {α β:Type} (k : α→β):∀ (a:List α) (b:List β),a.length=b.length→(∀ p∈a.zip b,k p.1=p.2)→a.map k=b
 | [],[],_,_=>rfl
 | x :: a,y :: b,hl,h=>by
  rw [List.map_cons,Zkc k a b (by simpa using hl) fun p hp=>h p (by rw [List.zip_cons_cons];simp [hp]),h (x,y) (by rw [List.zip_cons_cons];simp)]
theorem Yjm {f:Int→Tm}:∀ (S:List (Tm×Tm)) (m:List Bd),(∀ x∈S,x.1.ap f=x.2)→(∀ b∈m,f b.v=b.t)→∃ m',gat S m=some m'∧∀ b∈m',f b.v=b.t:=by
 intro S m
 induction S,m using gat.induct with
 | case1 m=>intro _ h;exact ⟨m,by rw [gat],h⟩
 | case2 x r m hv c hf he ih =>
  intro h1 h2
  obtain ⟨m',a1,a2⟩:=ih (fun y hy=>h1 y (by simp [hy])) h2
  exact ⟨m',by rw [gat,if_pos hv,hf];simp only [if_pos he];exact a1,a2⟩
 | case3 x r m hv c hf he =>
  intro h1 h2
  refine absurd ?_ he
  have e1:=h2 c (List.mem_of_find?_eq_some hf)
  have e2:=h1 x (by simp)
  have e3:=List.find?_some hf
  simp only [beq_iff_eq] at e3
  rw [Zu9 (by omega),← e3] at e2
  rw [← e1,e2]
 | case4 x r m hv hf ih =>
  intro h1 h2
  have e2:=h1 x (by simp)
  rw [Zu9 (by omega)] at e2
  obtain ⟨m',a1,a2⟩:=ih (fun y hy=>h1 y (by simp [hy])) (fun b hb=>by
   rcases List.mem_append.1 hb with hb | hb
   ·exact h2 b hb
   ·rw [List.mem_singleton.1 hb];exact e2)
  exact ⟨m',by rw [gat,if_pos hv,hf];exact a1,a2⟩
 | case5 x r m hv hc =>
  intro h1 _
  have e2:=h1 x (by simp)
  rw [Zwe (by omega)] at e2
  rcases hc with hc | hc
  ·exact absurd (by rw [← e2];rfl) hc
  ·exact absurd (by rw [← e2];simp [Tm.args]) hc
 | case6 x r m hv hc ih =>
  intro h1 h2
  have e2:=h1 x (by simp)
  rw [Zwe (by omega)] at e2
  have e3:x.2.args=x.1.args.map (Tm.ap f):=by rw [← e2];rfl
  obtain ⟨m',a1,a2⟩:=ih (fun y hy=>by
   rcases List.mem_append.1 hy with hy | hy
   ·have hy:=List.mem_reverse.1 hy
    rw [e3] at hy
    exact Zkw _ _ y hy
   ·exact h1 y (by simp [hy])) h2
  exact ⟨m',by rw [gat,if_neg hv,if_neg hc];exact a1,a2⟩
theorem Yb5:∀ (S:List (Tm×Tm)) (m m':List Bd),gat S m=some m'→(∀ b∈m,b∈m')∧∀ f:Int→Tm,(∀ b∈m',f b.v=b.t)→∀ x∈S,x.1.ap f=x.2:=by
 intro S m
 induction S,m using gat.induct with
 | case1 m =>
  intro m' h
  rw [gat] at h
  cases h
  exact ⟨fun _ h=>h,fun f _ x hx=>by cases hx⟩
 | case2 x r m hv c hf he ih =>
  intro m' h
  rw [gat,if_pos hv,hf] at h
  simp only [if_pos he] at h
  obtain ⟨a1,a2⟩:=ih m' h
  refine ⟨a1,fun f hb y hy=>?_⟩
  rcases List.mem_cons.1 hy with rfl | hy
  ·have e3:=List.find?_some hf
   simp only [beq_iff_eq] at e3
   rw [Zu9 (by omega),← e3,hb c (a1 c (List.mem_of_find?_eq_some hf)),he]
  ·exact a2 f hb y hy
 | case3 x r m hv c hf he =>
  intro m' h
  rw [gat,if_pos hv,hf] at h
  simp only [if_neg he] at h
  cases h
 | case4 x r m hv hf ih =>
  intro m' h
  rw [gat,if_pos hv,hf] at h
  simp only at h
  obtain ⟨a1,a2⟩:=ih m' h
  refine ⟨fun b hb=>a1 b (by simp [hb]),fun f hb y hy=>?_⟩
  rcases List.mem_cons.1 hy with rfl | hy
  ·have:=hb ⟨-1 - y.1.head,y.2⟩ (a1 _ (by simp))
   rw [Zu9 (by omega)];exact this
  ·exact a2 f hb y hy
 | case5 x r m hv hc =>
  intro m' h
  rw [gat,if_neg hv,if_pos hc] at h
  cases h
 | case6 x r m hv hc ih =>
  intro m' h
  rw [gat,if_neg hv,if_neg hc] at h
  obtain ⟨a1,a2⟩:=ih m' h
  refine ⟨a1,fun f hb y hy=>?_⟩
  rcases List.mem_cons.1 hy with rfl | hy
  ·have e1:y.1.head=y.2.head:=Decidable.byContradiction fun hn=>hc (.inl hn)
   have e2:y.1.args.length=y.2.args.length:=Decidable.byContradiction fun hn=>hc (.inr hn)
   rw [Zwe (by omega),Zkc (Tm.ap f) _ _ e2 fun p hp=>a2 f hb p (List.mem_append_left _ (List.mem_reverse.2 hp))]
   exact Yan e1 rfl
  ·exact a2 f hb y (List.mem_append_right _ hy)
theorem Yky {Q:Tm→Prop} (hQ:∀ t,Q t→∀ u∈t.args,Q u):∀ (S:List (Tm×Tm)) (m m':List Bd),gat S m=some m'→(∀ x∈S,x.1.good=true∧Q x.2)→(∀ b∈m,(0≤b.v∧b.v≤255)∧Q b.t)→∀ b∈m',(0≤b.v∧b.v≤255)∧Q b.t:=by
 intro S m
 induction S,m using gat.induct with
 | case1 m =>
  intro m' h _ h2
  rw [gat] at h
  cases h
  exact h2
 | case2 x r m hv c hf he ih =>
  intro m' h h1 h2
  rw [gat,if_pos hv,hf] at h
  simp only [if_pos he] at h
  exact ih m' h (fun y hy=>h1 y (by simp [hy])) h2
 | case3 x r m hv c hf he =>
  intro m' h
  rw [gat,if_pos hv,hf] at h
  simp only [if_neg he] at h
  cases h
 | case4 x r m hv hf ih =>
  intro m' h h1 h2
  rw [gat,if_pos hv,hf] at h
  simp only at h
  obtain ⟨g1,g2⟩:=h1 x (by simp)
  have gh:=Zcz g1
  exact ih m' h (fun y hy=>h1 y (by simp [hy])) fun b hb=>by
   rcases List.mem_append.1 hb with hb | hb
   ·exact h2 b hb
   ·rw [List.mem_singleton.1 hb];exact ⟨⟨hv,by simp only;omega⟩,g2⟩
 | case5 x r m hv hc =>
  intro m' h
  rw [gat,if_neg hv,if_pos hc] at h
  cases h
 | case6 x r m hv hc ih =>
  intro m' h h1 h2
  rw [gat,if_neg hv,if_neg hc] at h
  obtain ⟨g1,g2⟩:=h1 x (by simp)
  refine ih m' h (fun y hy=>?_) h2
  rcases List.mem_append.1 hy with hy | hy
  ·have hy:=List.of_mem_zip (List.mem_reverse.1 hy)
   exact ⟨Zcr g1 _ hy.1,hQ _ g2 _ hy.2⟩
  ·exact h1 y (by simp [hy])
mutual
theorem Zre {f:Int→Tm}:∀ (t u:Tm) (s:List Bd),t.ap f=u→(∀ b∈s,f b.v=b.t)→(gatD t u s).2=true∧∀ b∈(gatD t u s).1,f b.v=b.t
 | .mk h ts,u,s,he,hs=>by
  rw [gatD]
  rw [Tm.ap] at he
  by_cases hn:h<0
  ·rw [if_pos hn] at he ⊢
   cases hf:s.find? (fun b=>b.v == -1 - h) with
   | some b =>
    have e1:=hs b (List.mem_of_find?_eq_some hf)
    have e3:=List.find?_some hf
    simp only [beq_iff_eq] at e3
    simp only
    refine ⟨?_,hs⟩
    rw [decide_eq_true_eq,← e1,e3,he]
   | none =>
    simp only
    refine ⟨trivial,fun b hb=>?_⟩
    rcases List.mem_append.1 hb with hb | hb
    ·exact hs b hb
    ·rw [List.mem_singleton.1 hb];exact he
  ·rw [if_neg hn] at he ⊢
   subst he
   rw [if_neg (show ¬ (h≠(Tm.mk h (Tm.apL f ts)).head∨ts.length≠(Tm.mk h (Tm.apL f ts)).args.length) from by simp [Tm.head,Tm.args,Zjw])]
   exact Zmo ts _ s (by rw [← Zjw];rfl) hs
theorem Zmo {f:Int→Tm}:∀ (ts us:List Tm) (s:List Bd),ts.map (Tm.ap f)=us→(∀ b∈s,f b.v=b.t)→(gatDL ts us s).2=true∧∀ b∈(gatDL ts us s).1,f b.v=b.t
 | [],_,s,_,hs=>by rw [gatDL];exact ⟨rfl,hs⟩
 | t :: ts,[],s,he,_=>by simp at he
 | t :: ts,u :: us,s,he,hs=>by
  rw [List.map_cons] at he
  injection he with h1 h2
  obtain ⟨a1,a2⟩:=Zre t u s h1 hs
  rw [gatDL,if_pos a1]
  exact Zmo ts us _ h2 a2
end
mutual
theorem Zi5:∀ (t u:Tm) (s:List Bd),(gatD t u s).2=true→(∀ b∈s,b∈(gatD t u s).1)∧∀ f:Int→Tm,(∀ b∈(gatD t u s).1,f b.v=b.t)→t.ap f=u
 | .mk h ts,u,s,he=>by
  rw [gatD] at he ⊢
  by_cases hn:h<0
  ·rw [if_pos hn] at he ⊢
   cases hf:s.find? (fun b=>b.v == -1 - h) with
   | some b =>
    rw [hf] at he
    simp only [decide_eq_true_eq] at he ⊢
    refine ⟨fun _ h=>h,fun f hb=>?_⟩
    have e3:=List.find?_some hf
    simp only [beq_iff_eq] at e3
    rw [Tm.ap,if_pos hn,← e3,hb b (List.mem_of_find?_eq_some hf),he]
   | none =>
    simp only
    refine ⟨fun b hb=>by simp [hb],fun f hb=>?_⟩
    rw [Tm.ap,if_pos hn]
    exact hb ⟨-1 - h,u⟩ (by simp)
  ·rw [if_neg hn] at he ⊢
   by_cases hc:h≠u.head∨ts.length≠u.args.length
   ·rw [if_pos hc] at he;cases he
   ·rw [if_neg hc] at he ⊢
    have e1:h=u.head:=Decidable.byContradiction fun hn=>hc (.inl hn)
    have e2:ts.length=u.args.length:=Decidable.byContradiction fun hn=>hc (.inr hn)
    obtain ⟨a1,a2⟩:=Zke ts u.args s e2 he
    refine ⟨a1,fun f hb=>?_⟩
    rw [Tm.ap,if_neg hn,Zjw,a2 f hb]
    exact Yan e1 rfl
theorem Zke:∀ (ts us:List Tm) (s:List Bd),ts.length=us.length→(gatDL ts us s).2=true→(∀ b∈s,b∈(gatDL ts us s).1)∧∀ f:Int→Tm,(∀ b∈(gatDL ts us s).1,f b.v=b.t)→ts.map (Tm.ap f)=us
 | [],[],s,_,_=>by rw [gatDL];exact ⟨fun _ h=>h,fun _ _=>rfl⟩
 | t :: ts,u :: us,s,hl,he=>by
  rw [gatDL] at he ⊢
  by_cases hg:(gatD t u s).2=true
  ·rw [if_pos hg] at he ⊢
   obtain ⟨a1,a2⟩:=Zi5 t u s hg
   obtain ⟨b1,b2⟩:=Zke ts us _ (by simpa using hl) he
   refine ⟨fun b hb=>b1 b (a1 b hb),fun f hb=>?_⟩
   rw [List.map_cons,b2 f hb,a2 f fun b hx=>hb b (b1 b hx)]
  ·rw [if_neg hg] at he;cases he
end
mutual
theorem Zth:∀ (t u:Tm) (s:List Bd),(s.map Bd.v).Nodup→((gatD t u s).1.map Bd.v).Nodup
 | .mk h ts,u,s,hs=>by
  rw [gatD]
  split
  ·split
   ·exact hs
   ·rename_i hf
    rw [List.map_append,List.nodup_append]
    refine ⟨hs,by simp,fun u hu w hw=>?_⟩
    simp only [List.map_cons,List.map_nil,List.mem_singleton] at hw
    subst hw
    obtain ⟨b,hb,rfl⟩:=List.mem_map.1 hu
    intro e
    exact absurd (by simpa using e) (List.find?_eq_none.1 hf b hb)
  ·split
   ·exact hs
   ·exact Zut ts u.args s hs
theorem Zut:∀ (ts us:List Tm) (s:List Bd),(s.map Bd.v).Nodup→((gatDL ts us s).1.map Bd.v).Nodup
 | [],_,s,hs=>by rw [gatDL];exact hs
 | _ :: _,[],s,hs=>by rw [gatDL];exact hs
 | t :: ts,u :: us,s,hs=>by
  rw [gatDL]
  split
  ·exact Zut ts us _ (Zth t u s hs)
  ·exact hs
end
theorem Zrv:∀ l:List Bd,(l.map Bd.v).Nodup→∀ b∈l,l.find? (fun c=>c.v==b.v)=some b
 | c :: l,h,b,hb=>by
  rw [List.map_cons,List.nodup_cons] at h
  rw [List.find?_cons]
  rcases List.mem_cons.1 hb with rfl | hb
  ·simp
  ·have hne:¬ c.v=b.v:=fun e=>h.1 (by rw [e];exact List.mem_map.2 ⟨b,hb,rfl⟩)
   rw [show (c.v==b.v)=false from by simp [hne]]
   exact Zrv l h.2 b hb
theorem Yit {l:List Bd} (h:(l.map Bd.v).Nodup) (v:Int):l.reverse.find? (fun c=>c.v==v)=l.find? (fun c=>c.v==v):=by
 cases hf:l.find? (fun c=>c.v==v) with
 | some b =>
  have e3:=List.find?_some hf
  simp only [beq_iff_eq] at e3
  have:=Zrv l.reverse (by rw [List.map_reverse];exact (List.reverse_perm _).nodup_iff.2 h) b (List.mem_reverse.2 (List.mem_of_find?_eq_some hf))
  rwa [e3] at this
 | none =>
  rw [List.find?_eq_none] at hf ⊢
  exact fun x hx=>hf x (List.mem_reverse.1 hx)
theorem Yl5 {l:List Bd} (h:(l.map Bd.v).Nodup) (v:Int):ofB l.reverse v=ofB l v:=by
 unfold ofB;rw [Yit h]
theorem Zs9 {l:List Bd} (h:(l.map Bd.v).Nodup):∀ b∈l,ofB l b.v=b.t:=fun b hb=>by
 unfold ofB;rw [Zrv l h b hb];rfl
theorem Znn {k:Int→Option Bd} (hk:∀ w b,k w=some b→b.v=w) (v:Int):∀ L:List Int,(L.filterMap k).find? (fun c=>c.v==v)=if v∈L then k v else none
 | []=>by simp
 | w :: L=>by
  rw [List.filterMap_cons]
  cases hw:k w with
  | none =>
   simp only
   rw [Znn hk v L]
   by_cases e:v=w
   ·subst e;rw [hw];simp
   ·simp [List.mem_cons,e]
  | some b =>
   simp only
   rw [List.find?_cons,Znn hk v L,hk w b hw]
   by_cases e:w=v
   ·subst e;simp [hw]
   ·rw [show (w==v)=false from by simp [e]]
    simp [List.mem_cons,Ne.symm e]
theorem Yki {t:Tm} {v:Int} (hg:t.good=true) (h0 : 0≤v) (h:t.head = -1 - v):t = .mk (-1 - v) []:=by
 have:=(Zcz hg).2.2.2 (by omega)
 cases t;simp only [Tm.head,Tm.args] at h this;rw [h,this]
def kP (m:List Bd) (v:Int):Option Bd:=match m.find? (fun c=>c.v==v) with | some c=>if c.t.head = -1 - v then none else some ⟨v,c.t⟩ | none=>none
theorem kP_v (m:List Bd) (w:Int) (b:Bd) (h:kP m w=some b):b.v=w:=by
 unfold kP at h
 split at h
 ·split at h
  ·cases h
  ·cases h;rfl
 ·cases h
theorem Zng (m:List Bd) (ks:List Int):tidyP m ks=ks.filterMap (kP m):=rfl
theorem Yb2 {m:List Bd} {ks:List Int} (hks:∀ b∈m,b.v∈ks) (hv:∀ b∈m,0≤b.v∧b.t.good=true) (v:Int):ofB (tidyP m ks) v=ofB m v:=by
 rw [Zng]
 unfold ofB
 rw [Znn (kP_v m)]
 unfold kP
 cases hf:m.find? (fun c=>c.v==v) with
 | none=>simp
 | some c =>
  have hc:=List.mem_of_find?_eq_some hf
  have e3:=List.find?_some hf
  simp only [beq_iff_eq] at e3
  rw [if_pos (by rw [← e3];exact hks c hc)]
  simp only
  by_cases e:c.t.head = -1 - v
  ·rw [if_pos e]
   exact (Yki (hv c hc).2 (by rw [← e3];exact (hv c hc).1) e).symm
  ·rw [if_neg e];rfl
def kD (s:List Bd) (v:Int):Option Bd:=if (ofB s v).head = -1 - v then none else some ⟨v,ofB s v⟩
theorem kD_v (s:List Bd) (w:Int) (b:Bd) (h:kD s w=some b):b.v=w:=by
 unfold kD at h
 split at h
 ·cases h
 ·cases h;rfl
theorem Yh9 (s:List Bd):tidyD s=((List.range 256).map fun n:Nat=>(n:Int)).filterMap (kD s):=by
 unfold tidyD tidyL
 rw [List.filterMap_map];rfl
theorem Zqs {s:List Bd} (hg:∀ b∈s,b.t.good=true) {v:Int} (h0 : 0≤v) (h1:v≤255):ofB (tidyD s) v=ofB s v:=by
 rw [Yh9]
 have hin:v∈(List.range 256).map fun n:Nat=>(n:Int):=List.mem_map.2 ⟨v.toNat,List.mem_range.2 (by omega),by omega⟩
 have e:ofB (((List.range 256).map fun n:Nat=>(n:Int)).filterMap (kD s)) v=((kD s v).map Bd.t).getD (.mk (-1 - v) []):=by
  conv=>lhs;unfold ofB
  rw [Znn (kD_v s),if_pos hin]
 rw [e]
 unfold kD
 by_cases c:(ofB s v).head = -1 - v
 ·rw [if_pos c]
  have hgo:(ofB s v).good=true:=Ztz (P:=fun t=>t.good=true) hg (by
   simp only [Tm.good,Tm.goods,List.length_nil,Bool.and_true,Bool.not_eq_true',Bool.or_eq_false_iff,decide_eq_false_iff_not,Bool.and_eq_false_iff]
   refine ⟨⟨⟨.inr (by omega),by omega⟩,by omega⟩,by omega⟩)
  exact (Yki hgo h0 c).symm
 ·rw [if_neg c];rfl
theorem Zrr {m:List Bd} (hm:∀ b∈m,(0≤b.v∧b.v≤255)∧b.t.check=0):∀ (ks:List Int) (a:Int),ks.Pairwise (· < ·)→(∀ v∈ks,a<v)→subChk a (tidyP m ks)=0
 | [],_,_,_=>rfl
 | w :: ks,a,hp,ha=>by
  rw [List.pairwise_cons] at hp
  rw [Zng,List.filterMap_cons,← Zng]
  cases hw:kP m w with
  | none=>exact Zrr hm ks a hp.2 fun v hv=>ha v (by simp [hv])
  | some b =>
   simp only
   have hbv:=kP_v m w b hw
   unfold kP at hw
   cases hf:m.find? (fun c=>c.v==w) with
   | none=>rw [hf] at hw;cases hw
   | some c =>
    rw [hf] at hw
    simp only at hw
    have e3:=List.find?_some hf
    simp only [beq_iff_eq] at e3
    have hc:=hm c (List.mem_of_find?_eq_some hf)
    by_cases e:c.t.head = -1 - w
    ·rw [if_pos e] at hw;cases hw
    ·rw [if_neg e] at hw
     cases hw
     have:=ha w (by simp)
     rw [subChk,if_neg (by
      simp only
      rintro (h | h | h | h)
      ·omega
      ·omega
      ·exact h hc.2
      ·exact e h)]
     exact Zrr hm ks w hp.2 hp.1
theorem Ygm {l:List Int} (h:l.Nodup):(sortI l).Pairwise (· < ·):=by
 have ht:∀ x y z:Int,decide (x≤y)=true→decide (y≤z)=true→decide (x≤z)=true:=fun x y z h1 h2=>by simp at *;omega
 have hc:∀ x y:Int,(decide (x≤y)||decide (y≤x))=true:=fun x y=>by simp;omega
 have h1:(sortI l).Pairwise fun x y=>decide (x≤y)=true:=List.pairwise_mergeSort ht hc l
 have h2:(sortI l).Nodup:=(List.mergeSort_perm l _).nodup_iff.2 h
 refine (h1.and h2).imp fun {x y} h=>?_
 have h3:=h.1
 have h4:=h.2
 simp only [decide_eq_true_eq] at h3
 omega
theorem Zq8 {l:List Int} {v:Int}:v∈sortI l↔v∈l:=(List.mergeSort_perm l _).mem_iff
theorem Zw4 {t:Tm} (h:t.check=0):rightL [t]=true:=by simp [rightL,h]
theorem Zw7 {t:Tm} (h:t.check=0):wrongM [t]=false:=by simp [wrongM,h]
theorem Zwx:∀ t:Tm,t.check=0→∀ u∈t.args,u.check=0:=fun t h u hu=>by
 obtain ⟨c1,c2,c3⟩:=Zbc h
 have z1:=Zbe hu
 have z2:=Zau t
 have z3:=Zms hu
 exact Zv3 (by omega) (by omega) (Zcr c3 u hu)
theorem Ykc (l u:Tm):(gaLD [l] [u]).2=(gatD l u []).2∧((gatD l u []).2=true→(gaLD [l] [u]).1=(gatD l u []).1):=by
 have h:gatDL [l] [u] []=if (gatD l u []).2=true then ((gatD l u []).1,true) else ([],false):=by
  rw [gatDL];split
  ·rw [gatDL]
  ·rfl
 unfold gaLD
 rw [h]
 by_cases c:(gatD l u []).2=true
 ·simp [c]
 ·simp [c]
theorem Yfl {l u:Tm} (hl:l.check=0) (hu:u.check=0) (fl:l.fit) (fu:u.fit) :
  (allD [l] [u]).2.2=0∧(matP [l] [u]).2.2=0∧(allD [l] [u]).2.1=(matP [l] [u]).2.1∧((matP [l] [u]).2.1=true→subChk (-1) (matP [l] [u]).1=0∧l.pd (allD [l] [u]).1=u∧∀ r:Tm,r.good=true→within r l=true→r.sub (matP [l] [u]).1.reverse=r.pd (allD [l] [u]).1):=by
 obtain ⟨l1,_,l3⟩:=Zbc hl
 obtain ⟨u1,_,u3⟩:=Zbc hu
 have eD:allD [l] [u]=if (gatD l u []).2=false then ([],false,0) else (tidyD (gaLD [l] [u]).1,true,0):=by
  unfold allD
  rw [Zw4 hl,Zw4 hu,if_neg (by simp),(Ykc l u).1]
 have eP:matP [l] [u]=match gat [(l,u)] [] with | none=>([],false,0) | some m=>(tidyP m (sortI (m.map Bd.v)),true,0):=by
  unfold matP
  rw [Zw7 hl,Zw7 hu,if_neg (by simp)];rfl
 cases hg:gat [(l,u)] [] with
 | none =>
  rw [hg] at eP
  have:(gatD l u []).2=false:=by
   cases hd:(gatD l u []).2 with
   | false=>rfl
   | true =>
    obtain ⟨_,h2⟩:=Zi5 l u [] hd
    have h3:=h2 _ (Zs9 (Zth l u [] (by simp)))
    obtain ⟨m',h4,_⟩:=Yjm (f:=ofB (gatD l u []).1) [(l,u)] [] (fun x hx=>by rw [List.mem_singleton.1 hx];exact h3) (fun b hb=>by cases hb)
    rw [hg] at h4;cases h4
  rw [if_pos this] at eD
  rw [eD,eP]
  exact ⟨rfl,rfl,rfl,fun h=>by cases h⟩
 | some m =>
  rw [hg] at eP
  simp only at eP
  have hst:stOk [(l,u)]:=fun x hx=>by rw [List.mem_singleton.1 hx];exact ⟨fl,fu,by simp only;omega⟩
  have hnd:=(Ykf _ _ _ hg hst (fun b hb=>by cases hb) (by simp)).2.1
  have hval:=Yky (Q:=fun t=>t.check=0) Zwx _ _ _ hg (fun x hx=>by rw [List.mem_singleton.1 hx];exact ⟨l3,hu⟩) (fun b hb=>by cases hb)
  have hs:=(Yb5 _ _ _ hg).2 _ (Zs9 hnd) (l,u) (by simp)
  simp only at hs
  obtain ⟨d1,d2⟩:=Zre l u [] hs (fun b hb=>by cases hb)
  rw [if_neg (by rw [d1];simp),(Ykc l u).2 d1] at eD
  have hsd:=(Zi5 l u [] d1).2 _ (Zs9 (Zth l u [] (by simp)))
  have hagree:l.allV fun v=>ofB m v=ofB (gatD l u []).1 v:=Ykb l l3 (hs.trans hsd.symm)
  have hgd:∀ b∈(gatD l u []).1,b.t.good=true:=Zjg (P:=fun t=>t.good=true) (fun t h=>Zcr h) l u [] u3 (fun b hb=>by cases hb)
  have hP:∀ v,ofB (tidyP m (sortI (m.map Bd.v))) v=ofB m v:=Yb2 (fun b hb=>Zq8.2 (List.mem_map.2 ⟨b,hb,rfl⟩)) fun b hb=>⟨(hval b hb).1.1,(Zbc (hval b hb).2).2.2⟩
  have hchk:subChk (-1) (tidyP m (sortI (m.map Bd.v)))=0:=Zrr hval _ _ (Ygm hnd) fun v hv=>by
   obtain ⟨b,hb,rfl⟩:=List.mem_map.1 (Zq8.1 hv)
   have:=(hval b hb).1
   omega
  have hndP:=(Zft _ _ hchk).2
  have hlv:=Ydw l l3
  rw [eD,eP]
  refine ⟨rfl,rfl,rfl,fun _=>⟨hchk,?_,fun r hr hw=>?_⟩⟩
  ·rw [Yfo]
   refine (Zny l ?_).trans hsd
   rw [← Zfu] at hlv ⊢
   exact fun v hv=>Zqs hgd (hlv v hv).1 (by have:=(hlv v hv).2;omega)
  ·rw [Yko _ _ hr,Yfo]
   refine Zny r ?_
   rw [← Zfu] at hagree hlv ⊢
   intro v hv
   have hvl:v∈l.vars:=by
    unfold within at hw
    exact of_decide_eq_true (List.all_eq_true.1 hw v hv)
   rw [Yl5 hndP,hP,hagree v hvl]
   exact (Zqs hgd (hlv v hvl).1 (by have:=(hlv v hvl).2;omega)).symm
theorem Zrb (g:List Sy) (t:Tm):truthH g t=t.truth g:=by
 unfold truthH Tm.truth symAt
 by_cases h : 0≤t.head
 ·by_cases h2:t.head<(g.length:Int)
  ·have hk:t.head.toNat<g.length:=by omega
   simp [h,h2,hk,List.getD]
  ·have hk:¬ t.head.toNat<g.length:=by omega
   simp [h,h2,hk]
 ·simp [h]
theorem Zyz {g:List Sy} (hs:sigOk g=true) {t:Tm} (h:t.head=0):t.truth g=true:=by
 have h1:=Zyt hs
 have h2:=(Zq3 hs).1
 unfold isTrue at h1
 simp only [Bool.and_eq_true] at h1
 unfold Tm.truth symAt
 rw [h]
 simp only [Bool.and_eq_true,decide_eq_true_eq]
 refine ⟨⟨Int.le_refl _,by omega⟩,?_⟩
 have:g.getD (Int.toNat 0) Sy.dflt=g.getD 0 Sy.dflt:=rfl
 rw [this];exact h1.2.2.2
theorem Zqf {g:List Sy} {x y:Tm} (hx:x.term g=0) (hy:y.term g=0):(eqL x y).check g=0↔¬ ((x.truth g&&decide (y.head≠0))||(!x.truth g&&y.truth g))=true:=by
 unfold Li.check eqL
 simp only
 rw [if_neg (fun h=>h hx),if_neg (fun h=>h hy)]
 split
 ·simp_all
 ·simp_all
theorem Yg2 {g:List Sy} (hs:sigOk g=true) (l:Li):clauseCheck g [l]=l.check g:=by
 unfold clauseCheck
 rw [if_neg (by rw [hs];simp),if_neg (by simp),litsCheck,litsCheck]
 split
 ·rfl
 ·rename_i h;exact (Decidable.not_not.1 h).symm
theorem Yjp {g:List Sy} {x y:Tm} (hs:sigOk g=true) (h0:x.truth g=true→x.head≠0) (h:clauseCheck g [eqL y x]=0):clauseCheck g [eqL x y]=0:=by
 obtain ⟨hy,hx⟩:=Yb8 h
 rw [Yg2 hs] at h ⊢
 rw [Zqf hy hx] at h
 rw [Zqf hx hy]
 intro hn
 apply h
 simp only [Bool.or_eq_true,Bool.and_eq_true,decide_eq_true_eq,Bool.not_eq_true'] at hn ⊢
 rcases hn with ⟨a,b⟩ | ⟨a,b⟩
 ·cases hyt:y.truth g with
  | true=>exact .inl ⟨rfl,h0 a⟩
  | false=>exact .inr ⟨rfl,a⟩
 ·refine .inl ⟨b,fun e=>?_⟩
  rw [Zyz hs e] at a;cases a
theorem Ymd {g:List Sy} {c:List Li} {u:Un} {t:Tm} {e:Li} {n:Int} (hc:rtC g c) (hl:rtT g u.l) (hr:rtT g u.r) (ht:rtT g t) (hb:unitBad u=false) (he:sideD e n=(u.l,u.r)) :
  (turnD g e n t c).2=(turnT g c u t).2∧((turnT g c u t).2=true→(turnD g e n t c).1=(turnT g c u t).1):=by
 unfold unitBad at hb
 simp only [Bool.or_eq_false_iff,decide_eq_false_iff_not,Bool.not_eq_false'] at hb
 obtain ⟨hb1,hb2⟩:=hb
 have hs:=Zh0 ht.1
 have hcl:=(Zbh hl.1).1
 have hct:=(Zbh ht.1).1
 have hgr:=(Zbc (Zbh hr.1).1).2.2
 obtain ⟨m1,m2,m3,m4⟩:=Yfl hcl hct hl.2 ht.2
 unfold turnD turnT turnF
 rw [he]
 simp only
 rw [Zrb,Zrb]
 by_cases c1:u.l.truth g=t.truth g
 ·have n1:¬ (u.l.head=0∨u.l.truth g≠t.truth g∨within u.r u.l=false):=by
   rintro (h | h | h)
   ·exact hb1 h
   ·exact h c1
   ·rw [hb2] at h;cases h
  have n2:¬ (u.l.truth g≠t.truth g):=fun h=>h c1
  rw [if_neg n1,if_neg n2]
  have e1:mT u t=matP [u.l] [t]:=rfl
  rw [e1]
  by_cases c2:(matP [u.l] [t]).2.1=true
  ·obtain ⟨k1,k2,k3⟩:=m4 c2
   have n3:¬ ((allD [u.l] [t]).2.2≠0∨(allD [u.l] [t]).2.1=false):=by rw [m1,m3,c2];simp
   have n4:¬ ((matP [u.l] [t]).2.2≠0∨(matP [u.l] [t]).2.1=false):=by rw [m2,c2];simp
   rw [if_neg n3,if_neg n4,k2]
   have k4:=k3 u.r hgr hb2
   generalize hy:u.r.pd (allD [u.l] [t]).1=y
   rw [hy] at k4
   have ha:aT u t=if y.check=0 then (y,0) else (zeroT,y.check):=by
    unfold aT appS
    rw [e1,k4,if_neg]
    rintro (h | h)
    ·exact h k1
    ·exact h (Zbh hr.1).1
   by_cases c3:y.term g=0
   ·have hyc:=(Zbh c3).1
    rw [if_pos hyc] at ha
    have hyr:rtT g y:=by
     have:=(Ylx hr (Zbj ht)).1
     rw [ha] at this
     exact ⟨c3,this⟩
    have hk:kT g u t=(standF g t y,0):=by
     unfold kT
     rw [ha]
     have:firstW g [t,y]=0:=by rw [firstW,if_pos ht.1,firstW,if_pos c3,firstW]
     simp only [this,if_true]
    have hq:qT g u t c=cmpC g [eqL t y] c:=by unfold qT eqL;rw [ha]
    rw [ha,hk,hq]
    simp only
    rw [if_neg (fun h:(0:Int)≠0=>h rfl)]
    by_cases c4:clauseCheck g [eqL t y]=0
    ·rw [if_neg (fun h=>h.1 c4)]
     have hrt:rtC g [eqL t y]:=⟨c4,fun l hl=>by rw [List.mem_singleton.1 hl];exact ⟨ht.2,hyr.2⟩⟩
     rw [Ymc hrt hc]
     have hst:=Zuw ht hyr
     by_cases c5:standF g t y=1
     ·rw [c5] at hst ⊢
      rw [← hst]
      by_cases c6:st10 g [eqL t y] c = -1
      ·simp [c6]
      ·simp [c6]
     ·rw [show decide (standF g t y=1)=false from by simp [c5]] at hst
      rw [← hst]
      simp [c5]
    ·have c7:clauseCheck g [eqL y t]≠0:=fun h=>c4 (Yjp hs (fun htr h0=>by
      rw [← c1] at htr
      have hh:¬ u.l.head<0:=by
       unfold Tm.truth at htr
       simp only [Bool.and_eq_true,decide_eq_true_eq] at htr
       omega
      rw [Yfo,Zwe hh] at k2
      rw [← k2] at h0
      exact hb1 h0) h)
     rw [if_pos ⟨c4,c7⟩]
     have:(cmpC g [eqL t y] c).2≠0:=by unfold cmpC;rw [if_pos c4];exact c4
     by_cases c5:standF g t y=1
     ·simp [c5,this]
     ·simp [c5]
   ·have c4:clauseCheck g [eqL t y]≠0:=fun h=>c3 (Yb8 h).2
    have c7:clauseCheck g [eqL y t]≠0:=fun h=>c3 (Yb8 h).1
    rw [if_pos ⟨c4,c7⟩]
    by_cases hyc:y.check=0
    ·rw [if_pos hyc] at ha
     have hk:(kT g u t).2≠0:=by
      unfold kT
      rw [ha]
      rw [firstW,if_pos ht.1,firstW,if_neg c3];exact c3
     rw [ha]
     simp [hk]
    ·rw [if_neg hyc] at ha
     rw [ha]
     simp [hyc]
  ·have n3:(allD [u.l] [t]).2.2≠0∨(allD [u.l] [t]).2.1=false:=.inr (by rw [m3];simpa using c2)
   have n4:(matP [u.l] [t]).2.2≠0∨(matP [u.l] [t]).2.1=false:=.inr (by simpa using c2)
   rw [if_pos n3,if_pos n4]
   exact ⟨rfl,fun h=>by cases h⟩
 ·have n1:u.l.head=0∨u.l.truth g≠t.truth g∨within u.r u.l=false:=.inr (.inl c1)
  rw [if_pos n1,if_pos (show u.l.truth g≠t.truth g from c1)]
  exact ⟨rfl,fun h=>by cases h⟩
theorem Yi6 {g:List Sy} {c:List Li} {u:Un} {t:Tm} {e:Li} {n:Int} (hb:unitBad u=true) (he:sideD e n=(u.l,u.r)):(turnD g e n t c).2=false:=by
 unfold unitBad at hb
 simp only [Bool.or_eq_true,decide_eq_true_eq,Bool.not_eq_true'] at hb
 unfold turnD
 rw [he]
 simp only
 rw [if_pos (show u.l.head=0∨u.l.truth g≠t.truth g∨within u.r u.l=false from by
  rcases hb with h | h
  ·exact .inl h
  ·exact .inr (.inr h))]
def offO (x:Option (Un×Tm)):Option (Int×Tm):=x.map fun y=>(y.1.off,y.2)
theorem Zmj {g:List Sy} {c:List Li} {s:Spo} {u:Un} {e:Li} {n:Int} (hc:rtC g c) (hl:rtT g u.l) (hr:rtT g u.r) (ht:rtT g s.t) (he:sideD e n=(u.l,u.r)) (us:List Un) :
  offO (firstU (TT g c) s (([u].filter fun u=>!unitBad u)++us))=if (turnD g e n s.t c).2=true then some (u.off,(turnD g e n s.t c).1) else offO (firstU (TT g c) s us):=by
 cases hb:unitBad u with
 | true =>
  rw [Yi6 hb he]
  simp [hb]
 | false =>
  obtain ⟨h1,h2⟩:=Ymd hc hl hr ht hb he
  rw [h1]
  simp only [List.filter_cons,hb,Bool.not_false,if_true,List.filter_nil,List.cons_append,List.nil_append]
  rw [firstU]
  have e1:TT g c u s=turnT g c u s.t:=rfl
  rw [e1]
  by_cases h:(turnT g c u s.t).2=true
  ·rw [if_pos h,if_pos h,h2 h];rfl
  ·rw [if_neg h,if_neg h]
theorem Zus {g:List Sy} {c:List Li} {s:Spo} (hc:rtC g c) (ht:rtT g s.t):∀ (es:List (List Li)) (k:Nat),(∀ d∈es, ∀ e∈d,rtL g e) →
  offO (firstU (TT g c) s ((rawU es k).filter fun u=>!unitBad u))=(firstD g s.t c es k).map fun x=>((x.1:Int),x.2)
 | [],k,_=>by rw [rawU,firstD];rfl
 | d :: es,k,hes=>by
  have ih:=Zus hc ht es (k+1) fun d hd=>hes d (by simp [hd])
  rw [rawU,List.filter_append]
  cases hd:isU d with
  | false =>
   have hu:uOf d k=[]:=by
    unfold uOf
    split
    ·rename_i e
     have:e.neg=true:=by simpa [isU] using hd
     rw [if_pos this]
    ·rfl
   rw [hu,Zk0 hd]
   exact ih
  | true =>
   obtain ⟨e,rfl⟩:∃ e,d=[e]:=by
    match d,hd with
    | [e],_=>exact ⟨e,rfl⟩
    | [],h=>simp [isU] at h
    | _ :: _ :: _,h=>simp [isU] at h
   have hn:¬ e.neg=true:=by simpa [isU] using hd
   have hu:uOf [e] k=[⟨e.l,e.r,(k:Int)⟩]++[⟨e.r,e.l,(k:Int)⟩]:=by
    unfold uOf
    simp only [if_neg hn];rfl
   obtain ⟨r1,r2⟩:=hes [e] (by simp) e (by simp)
   rw [hu,Zi6 hd,List.filter_append,List.append_assoc,Zmj (e:=e) (n:=0) hc r1 r2 ht rfl,Zmj (e:=e) (n:=1) hc r2 r1 ht rfl,ih,trD]
   by_cases c1:(turnD g e 0 s.t c).2=true
   ·rw [if_pos c1,if_pos c1];rfl
   ·rw [if_neg c1,if_neg c1]
    by_cases c2:(turnD g e 1 s.t c).2=true
    ·rw [if_pos c2,if_pos c2];rfl
    ·rw [if_neg c2,if_neg c2]
theorem Zr8 {g:List Sy} {c:List Li} {es:List (List Li)} (hc:rtC g c) (hes:∀ d∈es, ∀ e∈d,rtL g e):∀ ss:List Spo,(∀ s∈ss,rtT g s.t) →
  firstSD g es c ss=(firstS (TT g c) (unitsOf es) ss).map fun x=>(putC c x.1 x.2.2,x.2.1.off)
 | [],_=>rfl
 | s :: ss,hs=>by
  have h:=Zus hc (hs s (by simp)) es 0 hes
  have ih:=Zr8 hc hes ss fun x hx=>hs x (by simp [hx])
  rw [firstSD,firstS]
  have hU:((rawU es 0).filter fun u=>!unitBad u)=unitsOf es:=rfl
  rw [hU] at h
  cases hf:firstU (TT g c) s (unitsOf es) with
  | none =>
   rw [hf] at h
   cases hd:firstD g s.t c es 0 with
   | none=>exact ih
   | some y=>rw [hd] at h;cases h
  | some x =>
   rw [hf] at h
   cases hd:firstD g s.t c es 0 with
   | none=>rw [hd] at h;cases h
   | some y =>
    rw [hd] at h
    have h':(x.1.off,x.2)=((y.1:Int),y.2):=Option.some.inj h
    simp only [Option.map_some,Zmh]
    rw [← (Prod.mk.inj h').1,(Prod.mk.inj h').2]
theorem Zqd {g:List Sy} {es:List (List Li)} {c:List Li} (h:inX es c):stepDX g es c=stepX g es c:=by
 unfold stepDX stepX
 split
 ·rfl
 ·rename_i hw
  have hw:wrongL g (c :: es)=0:=Decidable.not_not.1 hw
  obtain ⟨hc,_,hes,_⟩:=Zry h hw
  have hS:=Zr8 hc hes (spotsF c 0) (Zud hc)
  have hD:=fun x=>Zi4 hc hes (spotsF c 0) (fun s hs=>hs) x
  unfold stepD stepP stepF
  cases hf:firstS (TT g c) (unitsOf es) (spotsF c 0) with
  | none =>
   rw [hf] at hS
   rw [hS]
   simp
  | some x =>
   obtain ⟨s,u,t⟩:=x
   rw [hf] at hS
   have h0:=(hD _ hS).2.2
   simp only at h0
   rw [hS]
   simp only [Option.map_some,Option.getD_some]
   rw [if_neg (by omega)]
   by_cases c1:clauseCheck g (putC c s t)=0
   ·rw [if_pos c1,if_neg (fun h=>h c1)]
   ·rw [if_neg c1,if_pos c1]
theorem Yil {g:List Sy} {us:List Un} {c:List Li} (h0:(stepP g us c).2.2.2=0) (h1:(stepP g us c).2.2.1=true):clauseCheck g (stepP g us c).1=0:=by
 unfold stepP stepF at h0 h1 ⊢
 split
 ·rename_i h;rw [h] at h1;cases h1
 ·rename_i h
  rw [h] at h0 h1
  simp only at h0 h1 ⊢
  split
  ·assumption
  ·rename_i hc;rw [if_neg hc] at h1;cases h1
theorem Yn9 {g:List Sy} {es:List (List Li)} {c:List Li} (hw:wrongL g (c :: es)=0):stepX g es c=stepP g (unitsOf es) c:=by
 unfold stepX;exact if_neg (fun h=>h hw)
theorem Zvd {g:List Sy} {es:List (List Li)}:∀ (n:Nat) (c:List Li) (u:List Int),inX es c→wrongL g (c :: es)=0→normF (stepDX g es) n c u=normF (stepP g (unitsOf es)) n c u
 | 0,_,_,_,_=>rfl
 | n+1,c,u,h,hw=>by
  have e:stepDX g es c=stepP g (unitsOf es) c:=(Zqd h).trans (Yn9 hw)
  have hin:=Zrk (g:=g) h
  rw [normF,normF,e]
  rw [e] at hin
  split
  ·rfl
  ·rename_i h0
   have h0:=Decidable.not_not.1 h0
   split
   ·rfl
   ·rename_i h1
    split
    ·rfl
    ·refine Zvd n _ _ (hin h0) ?_
     have h2:=Yil h0 (by simpa using h1)
     rw [wrongL,if_neg (fun h=>h h2)]
     rw [wrongL] at hw
     split at hw
     ·rename_i h3;exact absurd hw h3
     ·exact hw
theorem Zor {g:List Sy} {es:List (List Li)} {c:List Li} (h:inX es c):normF (stepDX g es) 201 c []=normX g es c:=by
 unfold normX normalF
 by_cases hw:wrongL g (c :: es)=0
 ·rw [if_neg (fun h=>h hw)]
  exact Zvd _ _ _ h hw
 ·rw [if_pos hw,normF]
  have e:stepDX g es c=([],0,false,wrongL g (c :: es)):=by unfold stepDX;exact if_pos hw
  rw [e]
  exact if_pos hw
end Go.Proofs
namespace Go.Proofs
open Go Go.Abs
attribute [local go_sem] Nat.reduceAdd Nat.reduceSub Nat.reduceMul Nat.reduceLeDiff Nat.reduceEqDiff Nat.reduceBEq Nat.reduceLT Nat.le_refl Int.natCast_zero Nat.sub_zero List.length_map Int.toNat_natCast Int.natCast_one Int.reduceEq Int.reduceLT Int.reduceLE Int.reduceNe Int.sub_zero Int.zero_add Int.toNat_one
theorem Yd2 {g:List Sy} {c:List Li} (h:rtC g c):sizC c∧c.length≤32:=by
 refine ⟨fun l hl=>?_,(Zcp h.1).2.1⟩
 obtain ⟨a1,a2⟩:=Zdh h hl
 have b1:=(Zbj a1).2
 have b2:=(Zbj a2).2
 omega
theorem Yf0:sizC []∧([]:List Li).length≤32:=by
 refine ⟨fun l hl=>?_,by simp⟩
 exact absurd hl (by simp)
theorem Zpf {P:List Li→Prop} {S:List Li→List Li×Int×Bool×Int} (h0:P []) (hP:∀ c,P c→(S c).2.2.2=0→(S c).2.2.1=true→P (S c).1):∀ (n:Nat) (c:List Li) (u:List Int),P c→P (normF S n c u).1
 | 0,_,_,_=>h0
 | n+1,c,u,h=>by
  rw [normF]
  split
  ·exact h0
  ·rename_i h1
   split
   ·exact h
   ·rename_i h2
    split
    ·exact h0
    ·exact Zpf h0 hP n _ _ (hP c h (Decidable.not_not.1 h1) (by simpa using h2))
theorem Yf6 {g:List Sy} {es:List (List Li)} {c:List Li} (h:inX es c):sizC (normX g es c).1∧(normX g es c).1.length≤32:=by
 unfold normX normalF
 split
 ·exact Yf0
 ·rename_i hw
  have hw:=Decidable.not_not.1 hw
  have hi:=Zlx h hw
  refine Zpf (P:=fun d=>(d=[]∨rtC g d)∧sizC d∧d.length≤32) ⟨.inl rfl,Yf0⟩ (fun d hd e0 e1=>?_) 201 c [] ⟨.inr hi.1,Yd2 hi.1⟩ |>.2
  rcases hd.1 with rfl | hd
  ·have:(stepP g (unitsOf es) []).2.2.1=false:=rfl
   rw [this] at e1;cases e1
  ·have:=Zua hi.2.1 hd e0
   exact ⟨.inr this,Yd2 this⟩
set_option maxHeartbeats 1000000 in
theorem Zgp (g:List Sy) (es:List (List Li)) (c:List Li) (f1:∀ x∈es,fitC x) (f2:fitC c) (hcl:c.length≤2600000000000) {W:World} {vs:Array Value}
  (h2:vs.size=([.ps 4 (syms g), .ps 1 (clsA es), .ps 5 (lits c)]:List AVal).length)
  (h3:∀ k,k<([.ps 4 (syms g), .ps 1 (clsA es), .ps 5 (lits c)]:List AVal).length→Rep W noM noB (vs.getD k undef) (([.ps 4 (syms g), .ps 1 (clsA es), .ps 5 (lits c)]:List AVal).getD k .undef)) :
  Calls Tryz.prog 4 vs W fun e w'=>e = .returned (.bool true)∧RowKit.Below W.heap.size W w':=by
 refine Zy9 (args:=[.ps 4 (syms g), .ps 1 (clsA es), .ps 5 (lits c)]) (rs:=[.tmp 6]) (m:=47) 1000 Tryz.func4 rfl rfl rfl rfl ?_ (fun x hx=>by cases hx) h2 h3
 clear h2 h3
 simp only [go_sem]
 refine VCall.isoT [] (Yl4 g es c hcl) (Za1 _ _ _) (by simp [go_sem,Za5,Zak,Za3]) ?_;simp only [flatR,flatA,flatC,if_true];refine EvK.go 1000 ?_
 cases hfew:(symsFew g&&(fewE es&&fewC c)) with
 | false=>simp only [go_sem]
 | true =>
 simp only [Bool.and_eq_true] at hfew
 obtain ⟨hg,he,hc⟩:=hfew
 have hin:=Ypo he hc f1 f2
 have hS:=Zvc g es c hin
 have hD:=Ybz g es c hin
 rw [Zor hin] at hD
 obtain ⟨z1,z2⟩:=Yf6 (g:=g) hin
 have hE:=Zl6 (normX g es c).1 (normX g es c).1 z1 z1 (by omega)
 rw [(Zj6 _ _).2 rfl] at hE
 have hil:(normX g es c).2.1.length<2 ^ 62:=by
  have:(normX g es c).2.1.length≤200:=by
   unfold normX normalF
   split
   ·exact Nat.zero_le _
   ·exact Zvh _ _ _ _ (Nat.zero_le _)
  omega
 have hI:=Ye1 (normX g es c).2.1 (normX g es c).2.1 hil
 rw [decide_eq_true rfl] at hI
 generalize normX g es c=x at *
 simp only [go_sem]
 refine VCall.isoT [] (hS) (Za1 _ _ _) (by simp [go_sem,Za5,Zak,Za3]) ?_;simp only [flatR,flatA,flatC,if_true];refine EvK.go 1000 ?_
 simp only [go_sem]
 refine VCall.isoT [] (hD) (Za1 _ _ _) (by simp [go_sem,Za5,Zak,Za3]) ?_;simp only [flatR,flatA,flatC,if_true];refine EvK.go 1000 ?_
 simp only [go_sem]
 refine VCall.isoT [] (Yc2) (Za1 _ _ _) (by simp [go_sem, ]) ?_;simp only [flatR,flatA,flatC,if_true];refine EvK.go 1000 ?_
 simp only [go_sem]
 refine VCall.isoT [] (hE) (Za1 _ _ _) (by simp [go_sem,Za3]) ?_;simp only [flatR,flatA,flatC,if_true];refine EvK.go 1000 ?_
 simp only [go_sem]
 refine VCall.isoT [] (hI) (Za1 _ _ _) (by simp [go_sem,Za8]) ?_;simp only [flatR,flatA,flatC,if_true];refine EvK.go 1000 ?_
 simp only [go_sem,decide_true,beq_self_eq_true]
 trace_state
end Go.Proofs
