/- Part 45 of what the claim rests on. -/
import Derived.Test.YtfjbdamcmiglgaaGreatOwn44
import Derived.Shelf.Sort.Plain
import Derived.Shelf.Slices.In.SortNone
import Derived.Test.YtfjbdamcmiglgaaGreatProg
set_option linter.all false
abbrev iO:=@List.find?_some
abbrev pQ:=@List.length_filterMap_le
abbrev l9:=@List.map_set
abbrev kF:=@List.mergeSort_perm
namespace Go.Proofs
open Go.Shelf
def Tryz.lays189_ren:Go.Shelf.Ren:=⟨fun|189=>225|125=>238|257=>237|128=>256|129=>257|294=>247|295=>248|296=>249|297=>250|298=>251|299=>252|216=>253|300=>254|301=>255|328=>260|329=>261|330=>262|331=>263|332=>264|215=>265|343=>266|n=>n,fun|28=>26|3=>3|46=>265|0=>0|51=>279|53=>281|4=>4|183=>272|182=>271|131=>135|5=>5|9=>9|218=>282|222=>286|228=>288|229=>289|n=>n,fun|n=>n⟩
theorem Tryz.lays189:Go.Proofs.Lays.n189 Tryz.prog Tryz.lays189_ren:={
 mixed:=by kernel_rfl
 f125:=Tryz.func238.trans (congrArg some (by kernel_rfl))
 f128:=Tryz.func256.trans (congrArg some (by kernel_rfl))
 f129:=Tryz.func257.trans (congrArg some (by kernel_rfl))
 f189:=Tryz.func225.trans (congrArg some (by kernel_rfl))
 f215:=Tryz.func265.trans (congrArg some (by kernel_rfl))
 f216:=Tryz.func253.trans (congrArg some (by kernel_rfl))
 f257:=Tryz.func237.trans (congrArg some (by kernel_rfl))
 f294:=Tryz.func247.trans (congrArg some (by kernel_rfl))
 f295:=Tryz.func248.trans (congrArg some (by kernel_rfl))
 f296:=Tryz.func249.trans (congrArg some (by kernel_rfl))
 f297:=Tryz.func250.trans (congrArg some (by kernel_rfl))
 f298:=Tryz.func251.trans (congrArg some (by kernel_rfl))
 f299:=Tryz.func252.trans (congrArg some (by kernel_rfl))
 f300:=Tryz.func254.trans (congrArg some (by kernel_rfl))
 f301:=Tryz.func255.trans (congrArg some (by kernel_rfl))
 f328:=Tryz.func260.trans (congrArg some (by kernel_rfl))
 f329:=Tryz.func261.trans (congrArg some (by kernel_rfl))
 f330:=Tryz.func262.trans (congrArg some (by kernel_rfl))
 f331:=Tryz.func263.trans (congrArg some (by kernel_rfl))
 f332:=Tryz.func264.trans (congrArg some (by kernel_rfl))
 f343:=Tryz.func266.trans (congrArg some (by kernel_rfl))
 t0:=Tryz.underlying0
 a0:=Tryz.isAgg0
 z0:=Tryz.sizeOf0
 v0:=Tryz.zeroValue0
 t3:=Tryz.underlying3
 a3:=Tryz.isAgg3
 z3:=Tryz.sizeOf3
 v3:=Tryz.zeroValue3
 t4:=Tryz.underlying4
 a4:=Tryz.isAgg4
 z4:=Tryz.sizeOf4
 v4:=Tryz.zeroValue4
 t5:=Tryz.underlying5
 a5:=Tryz.isAgg5
 z5:=Tryz.sizeOf5
 v5:=Tryz.zeroValue5
 t9:=Tryz.underlying9
 a9:=Tryz.isAgg9
 z9:=Tryz.sizeOf9
 v9:=Tryz.zeroValue9
 t28:=Tryz.underlying26
 a28:=Tryz.isAgg26
 z28:=Tryz.sizeOf26
 v28:=Tryz.zeroValue26
 t46:=Tryz.underlying265
 a46:=Tryz.isAgg265
 z46:=Tryz.sizeOf265
 v46:=Tryz.zeroValue265
 t51:=Tryz.underlying279
 a51:=Tryz.isAgg279
 z51:=Tryz.sizeOf279
 v51:=Tryz.zeroValue279
 t53:=Tryz.underlying281
 a53:=Tryz.isAgg281
 z53:=Tryz.sizeOf281
 v53:=Tryz.zeroValue281
 t131:=Tryz.underlying135
 a131:=Tryz.isAgg135
 z131:=Tryz.sizeOf135
 v131:=Tryz.zeroValue135
 t182:=Tryz.underlying271
 a182:=Tryz.isAgg271
 z182:=Tryz.sizeOf271
 v182:=Tryz.zeroValue271
 t183:=Tryz.underlying272
 a183:=Tryz.isAgg272
 z183:=Tryz.sizeOf272
 v183:=Tryz.zeroValue272
 t218:=Tryz.underlying282
 a218:=Tryz.isAgg282
 z218:=Tryz.sizeOf282
 v218:=Tryz.zeroValue282
 t222:=Tryz.underlying286
 a222:=Tryz.isAgg286
 z222:=Tryz.sizeOf286
 v222:=Tryz.zeroValue286
 t228:=Tryz.underlying288
 a228:=Tryz.isAgg288
 z228:=Tryz.sizeOf288
 v228:=Tryz.zeroValue288
 t229:=Tryz.underlying289
 a229:=Tryz.isAgg289
 z229:=Tryz.sizeOf289
 v229:=Tryz.zeroValue289 }
open Go.Sort Go.RowKit in
theorem Tryz.slices_Sort_int (cG off cap:Nat) (zs:List Int) (w:World) (hH:Holds (Value.int .i64) w cG off zs.toArray) (AH:cG<w.heap.size) (eM:zs.length<4611686018427387904) :
  Calls Tryz.prog 225 #[.slice (some ⟨cG,off,none⟩) zs.length cap] w λe w' =>
   e=.returned (.tuple #[])/\∃n os,w'=grow (putRow (Value.int .i64) (Sort.ahead w n) cG off (zs.mergeSort λx y=>decide (x<=y)).toArray) os:=Any.slices_Sort_int Tryz.lays189 cG off cap zs w hH AH eM
open Go.RowKit Go.Sort in
theorem Tryz.slices_Sort_int_none (p:Option Addr) (cap:Nat) (w:World) :
  Calls Tryz.prog 225 #[.slice p 0 cap] w λe w'=>e=.returned (.tuple #[])/\w'=w:=Any.slices_Sort_int_none Tryz.lays189 p cap w
end Go.Proofs
namespace Go.Proofs
open Go Go.dq
theorem Xbt {m n b:Nat}(h:b<m\/n<=b):aw m n (.it b):=λρ eI=>by simp only[ez,eI b h]
theorem Yrd {m n:Nat}{ks vs:List ah}{seen:List Nat}(hk:bG 0 ks)(hv:bG 0 vs):Mf m n (some (.mC ks vs seen)):=λρ eI y hy=>by
 cases hy;simp only[eo,bT hk,bT hv]
theorem X0 {σ:av}{x:Option bS}{n:Nat}(h : σ.length=n):bW (σ++[x]) n=x:=by subst h;simp[bW]
theorem Yi7 {σ:av}{x:Option bS}{B:bS}{n:Nat}(h : σ.length=n):cJ (σ++[x]) n B = σ++[some B]:=by subst h;simp[cJ]
theorem LA:∀(σ τ:av),ic σ (σ++τ)
 |[],_=>trivial
 |a :: σ,τ=>⟨.inl rfl,LA σ τ⟩
theorem Ypp (kv:List Int) (vs:List ah) (nS:bG 0 vs) (n0:Nat) (lG:av) (S:List Nat->av) (p:Nat) (y:ah) (h0 : lG.length=n0) (Az : lG++[none]=S []) (hlen:∀i,(S i).length=n0+1) (fc:∀i,bW (S i) p=some (.var [.pm (ints kv) vs])) (hp:p<n0)
  (hs:∀i,bH (n0+1) (S i)) (lJ:bH n0 lG) (oU:y.low n0)
  (hy:∀(seen:List Nat) (j:Nat) (h:j<kv.length),j ∉ seen->seen.Nodup->(∀i∈seen,i<kv.length)->ak Tryz.prog y [.int .i64 kv[j]] (S seen) (λr σ'=>r=.bool true/\n0+1<=σ'.length/\bH σ'.length σ'/\∃π:Nat->Nat,(∀b,b<n0->π b=b)/\(∀b b',b<n0+1->b'<n0+1->π b = π b'->b=b')/\iH π σ' 0 (S (seen++[j])))) :
  ak Tryz.prog (.fn 226 [] [.ptr p 0]) [y] lG (λ_ σ'=>∃seen:List Nat,seen.Nodup/\(∀i,i∈seen↔i<kv.length)/\σ'=S seen):=by
 subst h0;refine ak.iq (rs:=[]) (m:=12) Tryz.func226 rfl rfl rfl rfl rfl ?_;refine aC.pad 1 (ae _) (by simp[go_sem,oU,hp]) lJ ?_;rw[show List.replicate 1 (none:Option bS)=[none] from rfl,Az]
 refine aC.g ?_;simp only[go_sem,fc,ae];rw[DW,hlen];have JD:∀seen,bH (lG.length+2) [some (bS.mC (ints kv) vs seen)]:=λseen=>⟨⟨cY _,iD (aj _) nS⟩,trivial⟩;have sD:∀seen,bH (lG.length+2) (S seen++[some (bS.mC (ints kv) vs seen)]):=λseen=>qO (ph (by omega) (hs seen)) (JD seen);refine aC.cA (ι:={seen:List Nat // seen.Nodup/\∀i∈seen,i<kv.length}) 1000 (λq=>dV 14 [(0,y),(5,.it (lG.length+1))]) (λq=>S q.1++[some (.mC (ints kv) vs q.1)]) (λq=>vU kv.length q.1) ⟨[],mc,λi hi=>by cases hi⟩ ?_ (λq=>by rw[aA,hlen];simp only;omega) ?_
 ·simp only[go_sem,aA,hlen,aq,aF,sD,oJ (m:=lG.length+1+1) (bV _ 2) oU];exact⟨gL _,by omega⟩
 ·rintro ⟨seen,qA,bx⟩;simp only[go_sem];have hgm:bW (S seen++[some (bS.mC (ints kv) vs seen)]) (lG.length+1)=some (.mC (ints kv) vs seen):=X0 (hlen seen);refine⟨lG.length+1,ints kv,vs,seen,rfl,hgm,λj hj hn=>?_,λfj=>?_⟩
  ·rw [ja]at hj;rw[Yi7 (hlen seen),vu hj];have hz:ah.low 0 (vs.getD j .undef):=jZ nS j;obtain⟨z,Eu⟩:∃z,vs.getD j .undef=z:=⟨_,rfl⟩;rw[Eu]at hz ⊢;have QU:aw lG.length (lG.length+1) (.dw [.bool true,.int .i64 kv[j],z]):=E2 (oJ (aj _) (show ah.low 0 _ from⟨trivial,trivial,hz,trivial⟩))
   have QV:aw lG.length (lG.length+1) (.dw [.int .i64 kv[j],z]):=E2 (oJ (aj _) (show ah.low 0 _ from⟨trivial,hz,trivial⟩))
   have RD:(seen++[j]).Nodup:=by
    rw[gC];exact⟨qA,by simp,λa ha b hb=>by rw[aK.1 hb];exact λe=>hn (e ▸ ha)⟩
   have aL:∀i∈seen++[j],i<kv.length:=λi hi=>by
    rcases a_.1 hi with hi|hi
    ·exact bx i hi
    ·rw[aK.1 hi];exact hj
   have Rk:bW (S seen++[some (bS.mC (ints kv) vs (seen++[j]))]) (lG.length+1)=some (.mC (ints kv) vs (seen++[j])):=X0 (hlen seen);refine aC.g ?_;simp only[go_sem,Rk,vu hj,Eu];refine aC.tf (σ:=S seen) (τ:=[some (bS.mC (ints kv) vs (seen++[j]))]) (.bool true) trivial (by rw[hlen];exact eH _) ?_ ?_ ?_ ?_ ?_ ?_ ?_ ?_
   ·rw[hlen];exact oJ (eH _) oU
   ·simp[go_sem]
   ·rw[hlen];exact hs seen
   ·rw[hlen];have hit:=Xbt (m:=lG.length) (n:=lG.length+1) (b:=lG.length+1) (.inr (ae _));simp[go_sem,Gz,GG,E2,oU,hit,QU,QV]
   ·rw[Ww,XE];exact⟨Yrd (cY _) nS,trivial⟩
   ·rw[hlen];have pJ:=oJ (m:=lG.length+1+1) (bV _ 2) oU;have hvg:=oJ (aj (lG.length+1+1)) hz;simp[go_sem,pJ,hvg]
   ·rw[hlen];exact JD _
   refine(hy seen j hj hn qA bx).mono ?_;rintro r σ' ⟨k1,k2,k3,π,k4,k5,k6⟩;rw[hlen];refine⟨k1,k2,k3,π,S (seen++[j]),hlen _,k4,k5,k6,hs _,?_⟩;refine aC.g ?_;simp only[go_sem];refine⟨⟨seen++[j],RD,aL⟩,?_,Yo hj hn⟩;simp only[go_sem,aA,hlen,aq,aF,sD,oJ (m:=lG.length+1+1) (bV _ 2) oU];exact⟨gL _,by omega⟩
  ·refine aC.g ?_;simp only[go_sem];refine aC.g ?_;simp only[go_sem];rw[gy];exact⟨S seen,LA _ _,by rw[hlen];exact eH _,by rw[hlen];exact hs _,trivial,seen,qA,λi=>⟨bx i,λh=>fj i (by rw[ja];exact h)⟩,rfl⟩
def oV (kv:List Int)(seen:List Nat):List Int:=seen.map λj=>kv.getD j 0
theorem Yjj {kv:List Int}{seen:List Nat}{j:Nat}(h:j<kv.length):oV kv (seen++[j])=oV kv seen++[kv[j]]:=by simp[oV,List.getD,h]
theorem Yom (kv:List Int)(seen:List Nat):(oV kv seen).length=seen.length:=by simp[oV]
theorem Zpt (kv:List Int) (vs:List ah) (nS:bG 0 vs) (hl:kv.length<100000000) :
  ak Tryz.prog (.fn 236 [] []) [.a8,.fn 226 [] [.ptr 0 0]] [some (.var [.pm (ints kv) vs])]
   (λr σ'=>∃seen:List Nat,seen.Nodup/\(∀i,i∈seen↔i<kv.length)/\r=eR 3 1 (ints (oV kv seen))/\σ'=[some (.var [.pm (ints kv) vs]),none,none,cX (ints (oV kv seen))]):=by
 refine ak.begin (rs:=[.tmp 4]) (m:=11) 1000 Tryz.func236 rfl rfl rfl rfl rfl ?_;simp only[go_sem];refine aC.rangeFunc (dV 13 [(2,.ptr 1 0)]) ?_ ?_ (λρ ht xL kU tv=>?_)
 ·simp only[go_sem]
 ·exact λb hb=>by cases hb
 simp only[go_sem];have ka:bG 3 ρ.tm:=by rw[ht];simp[go_sem,Cz,CH]
 have gE:∀l:List Int,bH 4 [some (.var [.pm (ints kv) vs]),some (.var [eR 3 1 (ints l)]),some (.loop (ρ.at .ready)),cX (ints l)] :=
  λl=>⟨⟨⟨cY _,iD (aj _) nS⟩,trivial⟩,⟨um (by decide) 1 _,trivial⟩,iD (by decide) ka,BQ _ (cY _),trivial⟩
 refine(Ypp kv vs nS 3 _ (λseen=>[some (.var [.pm (ints kv) vs]),some (.var [eR 3 1 (ints (oV kv seen))]),some (.loop (ρ.at .ready)),cX (ints (oV kv seen))]) 0 (.ni 2) rfl rfl (λ_=>rfl) (λ_=>rfl) (by decide) (λk=>gE _) ?_ (cQ 2) (λseen j hj hn qA bx=>?_)).mono ?_
 ·exact⟨⟨⟨cY _,iD (aj _) nS⟩,trivial⟩,⟨trivial,trivial⟩,ka,trivial⟩
 ·have u0:(oV kv seen).length<=kv.length:=by
   rw[Yom];have h1:seen.length<=(List.range kv.length).length:=List.Nodup.length_le_of_subset qA λi hi=>cd.2 (bx i hi)
   rwa [List.length_range]at h1
  rw[Yjj hj];generalize kv[j]=v at *
  generalize oV kv seen=L at *
  have yz:∀b,b<3->pi [(3,5),(5,3)] b=b:=by decide
  refine ak.move [(3,5),(5,3)] (S':=[some (.var [.pm (ints kv) vs]),some (.var [.os 5 0 (L.length+1) 1]),some (.loop (ρ.at .ready)),none,none,some (.row (ints L++[.int .i64 v]) 0)]) ?_ ?_ rfl ?_ ?_
  ·exact bV 4 2
  ·exact⟨⟨⟨cY _,iD (aj _) nS⟩,trivial⟩,⟨cQ 5,trivial⟩,iD (bV 3 3) ka,trivial,trivial,uQ (cY _) ⟨trivial,trivial⟩,trivial⟩
  ·have uW:=CL (pi [(3,5),(5,3)]) 3 yz (.loop (ρ.at .ready)) ka;simp only[yV,GX,GO,KV,KL,Oi,uW];simp[go_sem,bT nS,bT (cY _),bT (uQ (cY L) (show bG 0 [ah.int .i64 v] from⟨trivial,trivial⟩)),ja]
  refine ak.m8 1000 ht xL kU tv rfl rfl ?_;simp only[go_sem,eE,aK,forall_eq,bF,qg,ja];refine⟨by omega,?_⟩;rw[wB];exact⟨rfl,[some (.var [.pm (ints kv) vs]),some (.var [.os 5 0 (L.length+1) 1]),some (.loop (ρ.at .ready)),none,none,some (.row (ints L++[.int .i64 v]) 0)],by simp[go_sem],bV 4 2,⟨⟨⟨cY _,iD (aj _) nS⟩,trivial⟩,⟨cQ 5,trivial⟩,iD (bV 3 3) ka,trivial,trivial,uQ (cY _) (show bG 6 [ah.int .i64 v] from⟨trivial,trivial⟩),trivial⟩,rfl,rfl⟩
 rintro r' jO ⟨seen,qA,fj,rfl⟩;rw[E3];refine⟨.ready,rfl,?_⟩;rw[G0];refine aC.g ?_;simp only[go_sem];rw[gy];exact⟨[some (.var [.pm (ints kv) vs]),none,none,cX (ints (oV kv seen))],by simp[go_sem],by simp,⟨⟨⟨cY _,iD (aj _) nS⟩,trivial⟩,trivial,trivial,BQ _ (cY _),trivial⟩,um (show 3<4 by decide) 1 _,seen,qA,fj,rfl,rfl⟩
theorem Zws (kv:List Int) (vs:List ah) (nS:bG 0 vs) (hl:kv.length<100000000) :
  ak Tryz.prog (.fn 224 [] []) [.fn 226 [] [.ptr 0 0]] [some (.var [.pm (ints kv) vs])]
   (λr σ'=>∃seen:List Nat,seen.Nodup/\(∀i,i∈seen↔i<kv.length)/\r=eR 3 1 (ints (oV kv seen))/\σ'=[some (.var [.pm (ints kv) vs]),none,none,cX (ints (oV kv seen))]):=by
 refine ak.begin (rs:=[.tmp 2]) (m:=4) 1000 Tryz.func224 rfl rfl rfl rfl rfl ?_;simp only[go_sem];refine(Zpt kv vs nS hl).mono ?_;rintro r σ' ⟨seen,qA,fj,rfl,rfl⟩;refine aC.g ?_;simp only[go_sem];rw[gy];exact⟨[some (.var [.pm (ints kv) vs]),none,none,cX (ints (oV kv seen))],by simp[go_sem],by simp,⟨⟨⟨cY _,iD (aj _) nS⟩,trivial⟩,trivial,trivial,BQ _ (cY _),trivial⟩,um (show 3<4 by decide) 1 _,seen,qA,fj,rfl,rfl⟩
def iB (l:List Int):List Int:=l.mergeSort λx y=>decide (x<=y)
theorem GD (l:List Int):(iB l).length=l.length:=List.length_mergeSort l
theorem Ycf {a b:List Int}(h:a.Perm b):iB a=iB b:=by
 have ht:∀x y z:Int,decide (x<=y)=true->decide (y<=z)=true->decide (x<=z)=true:=λx y z h1 h2=>by simp at *;omega
 have hc:∀x y:Int,(decide (x<=y)||decide (y<=x))=true:=λx y=>by simp;omega
 refine List.Perm.eq_of_pairwise (le:=λx y=>decide (x<=y)=true) (λx y _ _ h1 h2=>by simp at h1 h2;omega) (List.pairwise_mergeSort ht hc a) (List.pairwise_mergeSort ht hc b) ?_;exact(kF a _).trans (h.trans (kF b _).symm)
theorem Yhy {kv:List Int} {seen:List Nat} (qA:seen.Nodup) (fj:∀i,i∈seen↔i<kv.length):(oV kv seen).Perm kv:=by
 have h1:seen.Perm (List.range kv.length):=(List.perm_ext_iff_of_nodup qA List.nodup_range).2 λi=>by rw[fj,cd]
 have h2:=h1.map λj=>kv.getD j 0;have h3:(List.range kv.length).map (λj=>kv.getD j 0)=kv:=by
  apply List.ext_getElem (by simp);intro i h4 h5;simp[List.getD,h5]
 rw[h3]at h2;exact h2
theorem Yh2 {b sz:Nat} {l l':List ah} (h:l.length=l'.length):eR b sz l=eR b sz l':=by
 cases l with
 |nil=>cases l' with
  |nil=>rfl
  |cons x l'=>simp at h
 |cons y l=>cases l' with
  |nil=>simp at h
  |cons x l'=>simp only[Cy];rw[show l.length=l'.length by simpa using h]
theorem Ydm (kv:List Int) (vs:List ah) (nS:bG 0 vs) (hl:kv.length<100000000) :
  ak Tryz.prog (.fn 209 [] []) [.fn 226 [] [.ptr 0 0]] [some (.var [.pm (ints kv) vs])]
   (λr σ'=>r=eR 3 1 (ints (iB kv))/\σ'=[some (.var [.pm (ints kv) vs]),none,none,cX (ints (iB kv))]):=by
 refine ak.begin (rs:=[.tmp 2]) (m:=8) 1000 Tryz.func209 rfl rfl rfl rfl rfl ?_;simp only[go_sem];refine(Zws kv vs nS hl).mono ?_;rintro r σ' ⟨seen,qA,fj,rfl,rfl⟩;have Ht:=Yhy qA fj;rw[<-Ycf Ht];have Rw:=Ht.length_eq;generalize oV kv seen=L at *
 have iz:∀K:ah->av->Prop,K (.dw []) [some (.var [.pm (ints kv) vs]),none,none,cX (ints (iB L))]->ak Tryz.prog (.fn 225 [] []) [eR 3 1 (ints L)] [some (.var [.pm (ints kv) vs]),none,none,cX (ints L)] K:=λK hK=>by
  cases L with
  |nil =>
   rw[show ints []=[] from rfl,pU,pC]
   refine ak.Dt Tryz.func225 rfl rfl (λa cap w=>Tryz.slices_Sort_int_none a cap w) ?_;rw[show iB []=[] from bn (GD []),show ints []=[] from rfl,pC]at hK
   exact hK
  | cons v L =>
   have dL:ints (v :: L)≠[]:=by simp[ints]
   have RF:ints (iB (v :: L))≠[]:=by
    intro e;have:=congrArg List.length e;rw[ja,GD]at this;simp at this
   rw[vY dL,vA dL,ja];rw[vA RF]at hK;exact ak.Du (zs:=v :: L) (ts:=iB (v :: L)) Tryz.func225 rfl rfl rfl (GD _) (λw cG off cap hH hb=>Tryz.slices_Sort_int cG off cap _ w hH hb (by omega)) (λa cap w=>Tryz.slices_Sort_int_none a cap w) hK
 refine aC.g ?_;simp only[go_sem];refine iz _ ?_;refine aC.g ?_;simp only[go_sem];rw[gy,Yh2 (l':=ints (iB L)) (by rw[ja,ja,GD])];exact⟨[some (.var [.pm (ints kv) vs]),none,none,cX (ints (iB L))],by simp[go_sem],by simp,⟨⟨⟨cY _,iD (aj _) nS⟩,trivial⟩,trivial,trivial,BQ _ (cY _),trivial⟩,um (show 3<4 by decide) 1 _,rfl,rfl⟩
end Go.Proofs
namespace Go.dq
open Go
section
variable {P:Program}{lo:Ctx}{Q:cB->St->Prop}{tm:List ah}{σ:av}{q:Nat}{ks vs:List ah}{fz:Bool}
theorem TQ {X:Nat->Nat->Prop}{base mb:Nat}{D:List Deferred}{β:Env}{a:Act}{w:World}(hb:bW σ q=some (.map ks vs fz))(h3:Rel X base mb D ⟨tm,σ⟩ β a w):Rel X base mb D ⟨tm.map (rv q ks vs),σ.set q none⟩ β a w:=by
 refine⟨h3.s.less (λc x hc=>(DY hc).2) bg,by simpa using h3.n,λk hk=>?_,h3.d⟩;simp only[ao]at hk;have:=Qh h3.s (la hb) (h3.t k hk);simpa[dR,hk] using this
theorem TY {n:Nat}{β β':Env}{w w':World}{σ':av}(g3:Ext n (σ.set q none) β w σ' β' w'):Ext n σ β w σ' β' w' :=
 ⟨g3.os,g3.tape,g3.output,g3.size,λg o v hc hn=>g3.cell g o v hc (λhm=>hn (CK hm)),λg hg hn=>g3.block g hg (λo hm=>hn o (CK hm)),λg o hm=>(g3.jq g o hm).imp CK id,g3.env⟩
theorem aC.CX {all:Array Oper}{l:List Oper}{k:List KI}(hb:bW σ q=some (.map ks vs fz))(he:aC P lo Q (.ops all l :: k) .normal ⟨tm.map (rv q ks vs),σ.set q none⟩):aC P lo Q (.ops all l :: k) .normal ⟨tm,σ⟩:=by
 simp only[aC]at he ⊢;refine λhs=>?_;intro X base mb D β a w b k cs h1 h2 h3;obtain⟨e1,lp,fI,a1,w1,q,g1,g2,g3,g4⟩:=(he hs) X base mb D β a w b k cs (by simpa using h1) h2 (TQ hb h3);exact⟨e1,lp,fI,a1,w1,q,g1,g2,TY g3,g4⟩
end
section
variable {q:Nat}{ks vs:List ah}
@[go_sem]theorem Xb0 {b o:Nat}:rv q ks vs (.ptr b o)=.ptr b o:=rfl
@[go_sem]theorem Xco {b o n s:Nat}:rv q ks vs (.os b o n s)=.os b o n s:=rfl
@[go_sem]theorem Yyu:rv q ks vs .undef=.undef:=rfl
@[go_sem]theorem Xaa {b:Bool}:rv q ks vs (.bool b)=.bool b:=rfl
@[go_sem]theorem Xbs {k:IntKind}{n:Int}:rv q ks vs (.int k n)=.int k n:=rfl
@[go_sem]theorem Xct {s:Nat}{l:List ah}:rv q ks vs (.ps s l)=.ps s l:=rfl
@[go_sem]theorem Xa8:rv q ks vs .a8=.a8:=rfl
@[go_sem]theorem Xc0 {l:List ah}:rv q ks vs (.agg l)=.agg l:=rfl
@[go_sem]theorem Xbo {l:List ah}:rv q ks vs (.dw l)=.dw l:=rfl
@[go_sem]theorem Xb1:rv q ks vs (.map q)=.pm ks vs:=if_pos rfl
@[go_sem]theorem Xcj {g:FuncId}{a c:List ah}:rv q ks vs (.fn g a c)=.fn g a c:=rfl
end
theorem ak.kI {P:Program} {F:Frame->List Frame->Sem Next->World->Value->World->Prop} {f f':ah} {args args':List ah} {K K':ah->av->Prop} {Z σ:av} (ι:Nat->Nat) (wj:∀b b',b<Z.length->b'<Z.length->ι b = ι b'->b=b') (hb:∀b,b<Z.length->ι b < σ.length)
  (xV:∀b,b<Z.length->∃o,Z[b]? = some o/\σ[ι b]? = some (o.map (eo ι))) (hf:f.low Z.length) (pG:ez ι f=f') (ha:bG Z.length args) (ha':eC ι args=args') (hs:bH Z.length Z)
  (h:dn P F f args Z K') (hk:∀r Z',K' r Z'->Z.length<=Z'.length/\bH Z'.length Z'/\r.low Z'.length/\K (ez (lX ι Z.length σ.length) r) (ix ι Z.length Z' σ)):dn P F f' args' σ K:=by
 have:=ak.Ao (K:=K) ι wj hb xV hf ha hs (h.mono hk)
 rwa [pG,ha']at this
section
variable {P:Program}{lo:Ctx}{Q:cB->St->Prop}{tm:List ah}{σ:av}{q b:Nat}{ks vs cs:List ah}{fz:Bool}{X:Nat->Nat->Prop}{base:Nat}{β:Env}{w:World}
theorem c8.Gk (hr:c8 X base σ β w) {b:Nat} {x y:bS} (hb:bW σ b=some x) (hm:∀L o,y.mut L o↔x.mut L o) (jB:∀L,β b=some L->ig w (MT X σ β) β L x->ig w (MT X σ β) β L y):c8 X base (cJ σ b y) β w:=by
 have oP:=la hb;have bx:b < σ.length:=(aN.1 oP).1;have fS:cJ σ b y = σ.set b (some y):=by unfold cJ;rw[if_pos bx]
 have hM:MT X (cJ σ b y) β=MT X σ β:=funext λg=>funext λo=>propext (by unfold MT;rw[Cu hb hm]);have fc:∀c z,(cJ σ b y)[c]? = some (some z)->(c=b/\z=y)\/σ[c]? = some (some z):=λc z h=>by
  rw[fS,eA]at h;split at h
  ·rename_i e;subst e;cases h;exact .inl ⟨rfl,rfl⟩
  ·exact .inr h
 have wY:∀c z,(cJ σ b y)[c]? = some (some z)->∃z',σ[c]? = some (some z'):=λc z h=>by
  rcases fc c z h with⟨rfl,rfl⟩|h
  ·exact⟨x,oP⟩
  ·exact⟨z,h⟩
 refine⟨λc hc=>hr.o_ c (by rw[Gu hb]at hc;exact hc),λc z hc=>?_,λc c' z z' L L' h1 h2 h3 h4 h5=>?_,hr.size,hr.sc,hr.gl⟩
 ·rw[hM];rcases fc c z hc with⟨rfl,rfl⟩|h
  ·obtain⟨L,q1,q2,q3,q4⟩:=hr.cG c x oP;exact⟨L,q1,q2,q3,jB L q1 q4⟩
  ·exact hr.cG c z h
 ·obtain⟨u,hu⟩:=wY c z h1;obtain⟨u',xn⟩:=wY c' z' h2;exact hr.inj c c' u u' L L' hu xn h3 h4 h5
theorem Ylh {mb:Nat} {D:List Deferred} {a:Act} (hq:bW σ q=some (.map ks vs fz)) (hb:bW σ b=some (.var cs)) (dL:b≠q) (h3:Rel X base mb D ⟨tm,σ⟩ β a w) :
  Rel X base mb D ⟨tm.map (rv q ks vs),cJ (σ.set q none) b (.var (cs.map (rv q ks vs)))⟩ β a w:=by
 have h1:=TQ hq h3;have qR:bW (σ.set q none) b=some (.var cs):=by rw[bW,b_ (λe=>dL e.symm)];exact hb
 have hm:∀L o,(bS.var (cs.map (rv q ks vs))).mut L o↔(bS.var cs).mut L o:=λL o=>by simp[bS.mut]
 have hM:MT X (cJ (σ.set q none) b (.var (cs.map (rv q ks vs)))) β=MT X (σ.set q none) β:=funext λg=>funext λo=>propext (by unfold MT;rw[Cu qR hm]);refine⟨c8.Gk h1.s qR hm λL hL jB=>?_,h1.n,λk hk=>by rw[hM];exact h1.t k hk,h1.d⟩;obtain⟨c,e,k1,k2,k3,k4⟩:=jB;refine⟨c,e,k1,k2,by simpa using k3,λk hk=>?_⟩;simp only[ao]at hk;have k5:=k4 k hk;have hg:(cs.map (rv q ks vs)).getD k .undef=rv q ks vs (cs.getD k .undef):=by simp[List.getD,hk]
 rw[hg];generalize cs.getD k .undef=x at k5;generalize c.getD k undef=vv at k5;cases x with
 |map c' =>
  refine Qh h3.s (la hq) ?_;cases k5 with
  |map hh=>exact .map hh
 |_=>exact k5
theorem Yon {n:Nat}{β':Env}{w':World}{σ':av}(hb:bW σ b=some (.var cs))(dL:b≠q)(g3:Ext n (cJ (σ.set q none) b (.var (cs.map (rv q ks vs)))) β w σ' β' w'):Ext n σ β w σ' β' w':=by
 have qR:bW (σ.set q none) b=some (.var cs):=by rw[bW,b_ (λe=>dL e.symm)];exact hb
 exact TY (Ext.w9 qR (λL o=>by simp[bS.mut]) g3)
theorem aC.IX {all:Array Oper} {l:List Oper} {k:List KI} (hq:bW σ q=some (.map ks vs fz)) (hb:bW σ b=some (.var cs)) (dL:b≠q)
  (he:aC P lo Q (.ops all l :: k) .normal ⟨tm.map (rv q ks vs),cJ (σ.set q none) b (.var (cs.map (rv q ks vs)))⟩):aC P lo Q (.ops all l :: k) .normal ⟨tm,σ⟩:=by
 have qR:bW (σ.set q none) b=some (.var cs):=by rw[bW,b_ (λe=>dL e.symm)];exact hb
 simp only[aC]at he ⊢;refine λhs=>?_;intro X base mb D β a w b k cs h1 h2 h3;obtain⟨e1,lp,fI,a1,w1,q,g1,g2,g3,g4⟩:=(he hs) X base mb D β a w b k cs (by simp only;rw[Gu qR];simpa using h1) h2 (Ylh hq hb dL h3);exact⟨e1,lp,fI,a1,w1,q,g1,g2,Yon hb dL g3,g4⟩
end
end Go.dq
namespace Go.Proofs
open Go Go.dq
def jz (l:List Tm):Bool:=l.any λt=>!decide (t.check=0)
theorem Ydo (t:Tm) (ht:t.size<99999999) (σ:av) (hs:bH σ.length σ):ak Tryz.prog (.fn 145 [] []) [t.aH] σ (λr σ'=>r=.bool (!decide (t.check=0))/\σ' = σ):=by
 have h:az Tryz.prog 145 [t.aH] (.bool (!decide (t.check=0))):=by
  refine az.begin (rs:=[.tmp 2]) (m:=5) 1000 Tryz.func145 rfl rfl rfl (by decide) trivial ?_;have p7:=EL t (by omega);simp only[go_sem,dO];refine ak.bm [] (p7) (by(try simp only[cq]);exact bL _ _ _) (by simp[go_sem,cV,bC]) ?_;simp only[bj,bA,bz,if_true];refine aC.g ?_
  by_cases h:t.check=0
  ·simp only[go_sem,h]
  ·simp only[go_sem,h]
 refine ak.bm [] h (bL _ _ _) (by simp[go_sem,cV]) ?_;rw[eW];simp only[ite_self];exact⟨trivial,trivial⟩
theorem Od (l:List Tm)(hl:l.length<99999999)(ht:∀t∈l,t.size<99999999):az Tryz.prog 112 [.ps 2 (l.map Tm.aH)] (.bool (jz l)):=by
 refine az.begin (rs:=[.tmp 2]) (m:=4) 1000 Tryz.func112 rfl rfl rfl (by decide) trivial ?_;simp only[go_sem];refine(Nk [] (.fn 145 [] []) (λt=>!decide (t.check=0)) l (by omega) trivial ⟨trivial,trivial⟩ (λi h=>Ydo _ (ht _ (ay h)) [] trivial)).mono ?_;rintro r σ' ⟨rfl,rfl⟩;refine aC.g ?_;simp only[go_sem,jz]
def Bw (s:List (Tm×Tm)):Prop:=∀x∈s,x.1.fit/\x.2.fit/\x.2.size<99999999
def Ey (m:List Bd):Prop:=∀b∈m,0<=b.v/\b.v<=9223372036854775807/\b.t.fit/\b.t.size<99999999
theorem Yif {x:Tm×Tm}{r:List (Tm×Tm)}(h:Bw (x :: r)):Bw ((x.1.args.zip x.2.args).reverse++r):=by
 intro y hy;obtain⟨h1,h2,h3⟩:=h x (by simp);rcases a_.1 hy with hy|hy
 ·have hy:=du.1 hy;have a1:=sO (dC hy).2;have a2:=n9 x.2;exact⟨yY (zH h1) _ (dC hy).1,yY (zH h2) _ (dC hy).2,by omega⟩
 ·exact h y (by simp[hy])
theorem UZ:∀(s:List (Tm×Tm)) (m m':List Bd),iF s m=some m'->Bw s->Ey m->(m.map Bd.v).Nodup->Ey m'/\(m'.map Bd.v).Nodup/\m'.length<=m.length+mM s:=by
 intro s m
 induction s,m using iF.induct with
 |case1 m =>
  intro m' h h1 h2 h3;rw[iF]at h;cases h;exact⟨h2,h3,by simp[mM]⟩
 |case2 x r m hv c hf he ih =>
  intro m' h h1 h2 h3;rw[iF,if_pos hv,hf]at h;simp only[if_pos he]at h;obtain⟨a1,a2,a3⟩:=ih m' h (λy hy=>h1 y (by simp[hy])) h2 h3;exact⟨a1,a2,by simp only[mM];omega⟩
 |case3 x r m hv c hf he =>
  intro m' h;rw[iF,if_pos hv,hf]at h;simp only[if_neg he]at h;cases h
 | case4 x r m hv hf ih =>
  intro m' h h1 h2 h3;rw[iF,if_pos hv,hf]at h;simp only at h;obtain⟨b1,b2,b3⟩:=h1 x (by simp);have Ea:=H4 b1;unfold nj at Ea;have hp:=BM x.1;obtain⟨a1,a2,a3⟩:=ih m' h (λy hy=>h1 y (by simp[hy])) (λb hb=>by
   rcases a_.1 hb with hb|hb
   ·exact h2 b hb
   ·rw[aK.1 hb];exact⟨hv,by simp only;omega,b2,b3⟩) (by
   rw[cf,gC];refine⟨h3,by simp,λu hu w hw=>?_⟩;simp only[aI,aR,aK]at hw;subst hw;obtain⟨b,hb,rfl⟩:=cN.1 hu;intro e;exact absurd (by simpa using e) (jw.1 hf b hb))
  refine⟨a1,a2,?_⟩;simp only[mM,aA,aq,aF]at a3 ⊢;omega
 |case5 x r m hv hc =>
  intro m' h;rw[iF,if_neg hv,if_pos hc]at h;cases h
 |case6 x r m hv hc ih =>
  intro m' h h1 h2 h3;rw[iF,if_neg hv,if_neg hc]at h;obtain⟨a1,a2,a3⟩:=ih m' h (Yif h1) h2 h3;have:=Ib x.1 x.2 r;exact⟨a1,a2,by simp only[mM];omega⟩
theorem Yna {a b:List Tm}(D_:Tm.fits a)(B3:Tm.fits b)(wg:Tm.bw b<99999999):Bw (a.zip b).reverse:=λx hx=>by
 have hx:=du.1 hx;have:=sO (dC hx).2;exact⟨yY D_ _ (dC hx).1,yY B3 _ (dC hx).2,by omega⟩
theorem Pa (σ:av)(b sz:Nat)(l:List ah):qd .slice σ (eR b sz l)=some l.length:=by
 cases l<;>rfl
theorem Zvr (bs:List Bd) (v:Int) (z:ah):fT (gA bs) (gZ bs) z (.int .i64 v) false=match bs.find? (λb=>b.v==v) with|some b=>b.t.aH|none=>z:=by
 have h:=HY v bs 0;unfold fT;cases hk:fR (.int .i64 v) (gA bs) 0 with
 |some i =>
  rw[hk]at h;obtain⟨_,b,h2,h3⟩:=h;rw[h3];simp only[aX,if_false,gZ,List.getD,cE];rw[gU]at h2;rw[h2];rfl
 |none =>
  rw[hk]at h;rw[show bs.find? (λb=>b.v==v)=none from h];rfl
def jX (m:List Bd)(ks:List Int):List Bd:=ks.filterMap λv=>match m.find? (λc=>c.v==v) with|some c=>if c.t.head = -1-v then none else some ⟨v,c.t⟩|none=>none
def iU (a b:List Tm):List Bd×Bool×Int :=
 if a.length≠b.length\/jz a=true\/jz b=true then ([],false,1) else
  match iF (a.zip b).reverse [] with
  |none=>([],false,0)
  |some m=>(jX m (iB (m.map Bd.v)),true,0)
theorem Ym5 (kv:List Int) (vs:List ah) (nS:bG 0 vs) (σ:av) (hs:bH σ.length σ):ak Tryz.prog (.fn 210 [] []) [.pm (ints kv) vs] σ
  (λr σ'=>r=.fn 226 [] [.ptr σ.length 0]/\σ' = σ++[some (.var [.pm (ints kv) vs])]):=by
 refine ak.begin (rs:=[.tmp 2]) (m:=3) 1000 Tryz.func210 rfl rfl rfl rfl rfl ?_;simp only[go_sem];rw[DW,gy];exact⟨_,gL _,by simp,qO (ph (by simp) hs) ⟨⟨⟨cY _,iD (aj _) nS⟩,trivial⟩,trivial⟩,by simp[go_sem],rfl,rfl⟩
theorem X3 (m:List Bd):gA m=ints (m.map Bd.v):=by simp[gA,ints]
theorem Ysd (a b:List Tm) (dL:a≠[]) (hs:Tm.bw a<99999999) (wg:Tm.bw b<99999999) (D_:Tm.fits a) (B3:Tm.fits b) :
  az Tryz.prog 188 [.ps 2 (a.map Tm.aH),.ps 2 (b.map Tm.aH)] (.dw [.ps 3 (dp (iU a b).1),.bool (iU a b).2.1,.int .i64 (iU a b).2.2]):=by
 refine az.begin (rs:=[.tmp 4,.tmp 5,.tmp 6]) (m:=53) 1000 Tryz.func188 rfl rfl rfl (by decide) (by simp[go_sem]) ?_;have nw:=mH a;have qS:=mH b;have hwa:=Od a (by omega) (λt ht=>by have:=sO ht;omega);have hwb:=Od b (by omega) (λt ht=>by have:=sO ht;omega);by_cases h1:a.length=b.length
 ·have ou:(a.length:Int)=b.length:=by omega
  simp only[go_sem,ao,ou];refine ak.bm [] (hwa) (bL _ _ _) (by simp[go_sem,bC]) ?_;simp only[bj,bA,bz,if_true];refine aC.g ?_;cases h2:jz a with
  |true =>
   have hm:iU a b=([],false,1):=by unfold iU;rw[if_pos (.inr (.inl h2))]
   rw[hm];simp only[go_sem,show dp []=[] from rfl]
  | false =>
   simp only[go_sem];refine ak.bm [] (hwb) (bL _ _ _) (by simp[go_sem,bC]) ?_;simp only[bj,bA,bz,if_true];refine aC.g ?_;cases h3:jz b with
   |true =>
    have hm:iU a b=([],false,1):=by unfold iU;rw[if_pos (.inr (.inr h3))]
    rw[hm];simp only[go_sem,show dp []=[] from rfl]
   | false =>
    have hm:iU a b=match iF (a.zip b).reverse [] with|none=>([],false,0) | some m=>(jX m (iB (m.map Bd.v)),true,0):=by
     unfold iU;rw[if_neg (by simp[h1,h2,h3])]
    rw[hm];simp only[go_sem];refine(Yh9 _ a b rfl dL h1 hs wg D_ B3).mono ?_;cases hg:iF (a.zip b).reverse [] with
    |none =>
     intro r σ' hr;obtain rfl:r=.bool false:=hr;refine aC.g ?_;simp only[go_sem,show dp []=[] from rfl]
    | some m =>
     rintro r σ' ⟨rfl,rfl⟩;refine aC.CX (q:=0) (ks:=gA m) (vs:=gZ m) (fz:=false) rfl ?_;refine aC.g ?_;simp only[go_sem,aI,aR];rw[X3];refine(Ym5 _ _ (jC m).2 [none] ⟨trivial,trivial⟩).mono ?_;rintro r σ' ⟨rfl,rfl⟩;refine aC.g ?_;simp only[go_sem];obtain⟨jB,qA,JF⟩:=UZ _ _ _ hg (Yna D_ B3 wg) (λb hb=>by cases hb) (by simp);have hzl:=LQ a b;rw[LW,aF]at JF;have JE:(m.map Bd.v).length<100000000:=by rw[ao];omega
     have FN:∀v∈iB (m.map Bd.v),∃c,m.find? (λc=>c.v==v)=some c/\c.v=v/\c∈m:=λv hv=>by
      have hv:=(kF _ _).mem_iff.1 hv;obtain⟨c,hc,rfl⟩:=cN.1 hv;cases hf:m.find? (λd=>d.v==c.v) with
      |none=>exact absurd (by simp) (jw.1 hf c hc)
      |some d=>exact⟨d,rfl,by simpa using iO hf,ck hf⟩
     have hso:=Ydm (m.map Bd.v) (gZ m) (jC m).2 JE;generalize hkv:m.map Bd.v=kv at *
     refine ak.Ao (f:=.fn 209 [] []) (args:=[.fn 226 [] [.ptr 0 0]]) (Z:=[some (.var [.pm (ints kv) (gZ m)])]) (λb=>b+1) (λb b' h1 h2 e=>by omega) (λb hb=>by simp at hb;subst hb;simp) (λb hb=>?_) ⟨trivial,trivial⟩ ⟨⟨trivial,⟨Nat.zero_lt_succ 0,trivial⟩⟩,trivial⟩ ⟨⟨⟨cY _,(jC m).2⟩,trivial⟩,trivial⟩ (hso.mono ?_)
     ·simp at hb;subst hb;refine⟨_,rfl,?_⟩;simp[eo,eC,ez,bT (cY _),bT (jC m).2]
     rintro r σ' ⟨rfl,rfl⟩;refine⟨by simp,⟨⟨⟨cY _,iD (aj _) (jC m).2⟩,trivial⟩,trivial,trivial,BQ _ (cY _),trivial⟩,um (show 3<4 by decide) 1 _,?_⟩;simp only[go_sem,ix,eQ,lX,aI,aR];rw[bT (cY _),bT (jC m).2];have u0:Option.map (eo (lX (λb=>b+1) 1 2)) (cX (ints (iB kv)))=cX (ints (iB kv)):=by
      cases hq:ints (iB kv) with
      |nil=>rfl
      |cons x l =>
       have zg:bG 0 (ints (iB kv)):=cY _;rw[BR,bD,xv,<-hq,bT zg]
     rw[u0];refine aC.g ?_;simp only[go_sem,Pa,ja];obtain⟨K,hK⟩:∃K,iB kv=K:=⟨_,rfl⟩;have hKl:K.length=kv.length:=by rw[<-hK,GD]
     rw[hK]at FN ⊢;refine aC.ep (ι:={q:Nat×List Bd // q.1<=K.length/\q.2++jX m (K.drop q.1)=jX m K/\q.2.length<=q.1}) 1000
      (λq=>dV 55 [(4,.a8),(5,.bool false),(6,.int .i64 0),(7,.pm (ints kv) (gZ m)),(8,eR 5 3 (dp q.1.2)),(32,eR 4 1 (ints K)),(33,.int .i64 K.length),(34,.int .i64 q.1.1)])
      (λq=>[none,none,none,none,cX (ints K),cX (dp q.1.2)]) (λq=>K.length-q.1.1) ⟨(0,[]),by simp⟩ [] ?_ (λ_=>aj _) ?_
     ·refine eL rfl ?_;simp only[go_sem,show dp []=[] from rfl,pU,pC,(jC m).2,iD (aj 6) (jC m).2,cY,bT (jC m).2,bT (cY _)]
     ·rintro ⟨⟨i,L⟩,hi,aD,C1⟩;simp only at hi aD C1;by_cases bx:(i:Int)<K.length
      ·have aL:i<K.length:=by omega
       have hw:=W1' i (by omega)
       have Dc:ints K≠[]:=by intro e;have:=congrArg List.length e;rw[ja]at this;simp at this;rw[this]at aL;simp at aL
       have Jl:=vu aL;obtain⟨c,uu,lS,C6⟩:=FN _ (ay aL);rw[ai aL]at aD;obtain⟨v,hv⟩:∃v,K[i]=v:=⟨_,rfl⟩;rw[hv]at Jl uu lS aD;obtain⟨o1,o2,o3,o4⟩:=jB c C6;have wi:IntKind.i64.wrap (-1-v) = -1-v:=dt (by omega);have qz:=Zvr m v (.agg [.int .i64 0,.a8]);rw[uu]at qz;simp only at qz;have sV:=BJ m v;rw[X3,hkv]at qz sV;by_cases rC:c.t.head = -1-v
       ·have JW:jX m (v :: K.drop (i+1))=jX m (K.drop (i+1)):=by simp[jX,uu,rC]
        rw[JW]at aD;simp only[go_sem,bx,vY Dc,vA Dc,ja,Jl,sV,qz,cq,wi,rC,hw];refine⟨by omega,aL,⟨(i+1,L),by simp only;omega,aD,by simp only;omega⟩,[],eL rfl ?_,by simp only;omega⟩;simp only[go_sem,(jC m).2,iD (aj 6) (jC m).2,cY,bT (jC m).2,bT (cY _),nq,K4 (of_eq_true (nq L))]
       ·have JW:jX m (v :: K.drop (i+1))=⟨v,c.t⟩ :: jX m (K.drop (i+1)):=by simp[jX,uu,rC]
        rw[JW]at aD;simp only[go_sem,bx,vY Dc,vA Dc,ja,Jl,sV,qz,cq,wi,rC,hw];have h5:bW [none,none,none,none,some (bS.row (ints K) 0),cX (dp L),some (bS.row [.agg [.int .i64 v,.int .i64 c.t.head,.ps 2 (c.t.args.map Tm.aH)]] 0)] 5=cX (dp L):=rfl;have nz:eE ⟨3,true,40,[.int .i64 0,.int .i64 0,.a8],.struct⟩ [.agg [.int .i64 v,.int .i64 c.t.head,.ps 2 (c.t.args.map Tm.aH)]]:=⟨λy hy=>by rw[aK.1 hy];exact⟨rfl,rfl⟩,by decide,by decide,rfl⟩;refine⟨by omega,aL,?_⟩;simp only[go_sem,qg h5,nz,q_,hw];refine⟨by omega,⟨(i+1,L++[⟨v,c.t⟩]),by simp only;omega,by rw[<-aD,cg];rfl,by simp only[aA,aq,aF];omega⟩,[(5,7),(7,5)],eL rfl ?_,by simp only;omega⟩;dsimp only
        have hba:dp (L++[⟨v,c.t⟩])=dp L++[.agg [.int .i64 v,.int .i64 c.t.head,.ps 2 (c.t.args.map Tm.aH)]]:=by simp[dp,Bd.aH]
        have lw:bG 0 (dp (L++[⟨v,c.t⟩])):=of_eq_true (nq _);rw[hba]at lw ⊢;rw[GX,GO];simp only[go_sem,(jC m).2,iD (aj 6) (jC m).2,cY,bT (jC m).2,bT (cY _),bT lw,iD (aj 6) lw,q_]
      ·have dm:i=K.length:=by omega
       subst dm;rw[aJ]at aD;simp only[go_sem,bx];refine aC.g ?_;simp only[go_sem];rw[<-aD,show jX m []=[] from rfl,bf]
       rw[nI rfl rfl];trivial
 ·have ou:¬(a.length:Int)=b.length:=by omega
  have hm:iU a b=([],false,1):=by unfold iU;rw[if_pos (.inl h1)]
  rw[hm];simp only[go_sem,ao,ou,show dp []=[] from rfl]
theorem Yf6 (a b:Tm) (ha:a.size<99999999) (hb:b.size<99999999) (D_:a.fit) (B3:b.fit) :
  az Tryz.prog 169 [a.aH,b.aH] (.dw [.ps 3 (dp (iU [a] [b]).1),.bool (iU [a] [b]).2.1,.int .i64 (iU [a] [b]).2.2]):=by
 refine az.begin (rs:=[.tmp 4,.tmp 5,.tmp 6]) (m:=13) 1000 Tryz.func169 rfl rfl rfl (by decide) (by simp[go_sem]) ?_;have fj:=Ysd [a] [b] (by simp) (by simpa[Tm.bw] using ha) (by simpa[Tm.bw] using hb) ⟨D_,trivial⟩ ⟨B3,trivial⟩;generalize iU [a] [b]=z at *
 simp only[go_sem,dO];refine ak.bm [2,3] fj ?_ (by simp[go_sem,cV]) ?_
 ·simp only[go_sem,cq,aI,aR]
 generalize bj _=fl;cases fl
 ·simp only[aX,if_false];refine aC.g ?_;simp only[go_sem]
 ·simp only[if_true];refine aC.g ?_;simp only[go_sem]
structure mG where
 i:Int
 rt:Bool
 p:List Int
 t:Tm
def mG.aH (s:mG):ah:=.agg [.int .i64 s.i,.bool s.rt,.ps 1 (ints s.p),.int .i64 s.t.head,.ps 2 (s.t.args.map Tm.aH)]
theorem Ob (s:mG):s.aH.cells=[.int .i64 s.i,.bool s.rt,.ps 1 (ints s.p),.int .i64 s.t.head,.ps 2 (s.t.args.map Tm.aH)]:=rfl
theorem Yvf {n:Nat}(s:mG):s.aH.low n:=⟨trivial,trivial,cY _,trivial,bC _,trivial⟩
def Li.side (l:Li)(rt:Bool):Tm:=if rt then l.r else l.l
def Li.rK (l:Li)(rt:Bool)(u:Tm):Li:=if rt then ⟨l.neg,l.l,u⟩ else ⟨l.neg,u,l.r⟩
def ll (c:List Li)(s:mG)(u:Tm):List Li:=match c[s.i.toNat]? with
 |some l=>c.set s.i.toNat (l.rK s.rt ((l.side s.rt).jy s.p u))
 |none=>c
theorem Yvd (c:List Li) (s:mG) (u v:Tm) (i:Nat) (h:i<c.length) (hi:s.i=i) (hv:(c[i].side s.rt).mr s.p=some v) (hl:c.length<=1000000) (hp:s.p.length<=1000000) (hs:(c[i].side s.rt).size<=1000000) :
  az Tryz.prog 142 [.ps 5 (lits c),s.aH,u.aH] (.ps 5 (lits (ll c s u))):=by
 refine az.begin (rs:=[.tmp 6]) (m:=43) 1000 Tryz.func142 rfl rfl rfl (by decide) (bI _) ?_;have dL:c≠[]:=by intro e;subst e;simp at h
 have j_:=Ytz (c[i].side s.rt) s.p u v hp hs hv;have mA:=qs h;have hpc:ll c s u=c.set i (c[i].rK s.rt ((c[i].side s.rt).jy s.p u)):=by
  unfold ll;rw[hi,bh,ax h]
 rw[hpc];generalize c[i]=l at *
 simp only[go_sem,Ob,dO];refine ak.vN [] (KN c dL (by omega)) (bL _ _ _) (by simp[go_sem,bI]) ?_;rw[eW];simp only[Cx,CA,CI,xv,CM,up,bT (bI _)];refine aC.g ?_;cases hr:s.rt with
 | true =>
  rw[hr]at j_;simp only[go_sem,hi,dA,mA,gf];refine⟨⟨by omega,by omega⟩,?_⟩;refine aC.draw [.no,.no,.no,.no,.no,.no,.no,.no,.no,.no,.no,⟨none,[],[3]⟩,.no,.no,⟨none,[3],[]⟩] 4 4 mixed rfl rfl (by decide) ?_;simp only[go_sem,cM,mA,gf,dA,h];refine jS j_ (by simp only[Li.side,cq,if_true,aX,if_false];exact bL _ _ _) (by simp[go_sem,cV,cY]) ?_;generalize hy:(l.side true).jy s.p u=y at *
  simp only[go_sem,dO,mA,gf,dA,h];have he:(lits c).set i (jl (c_ l.aH) [.bool l.neg,.int .i64 l.l.head,.ps 2 (l.l.args.map Tm.aH),.int .i64 y.head,.ps 2 (y.args.map Tm.aH)])=lits (c.set i (l.rK true y)):=by
   rw[show jl (c_ l.aH) [.bool l.neg,.int .i64 l.l.head,.ps 2 (l.l.args.map Tm.aH),.int .i64 y.head,.ps 2 (y.args.map Tm.aH)]=(l.rK true y).aH from rfl]
   simp[lits,l9]
  rw[he];refine⟨by omega,?_⟩;refine aC.g ?_;simp only[go_sem,dA,bg];rw[aO (by rw[dA,bg];exact ae _)];exact bL _ _ _
 | false =>
  rw[hr]at j_;simp only[go_sem,hi,dA,mA,gf];refine⟨⟨by omega,by omega⟩,?_⟩;refine aC.draw [.no,.no,.no,.no,.no,.no,.no,.no,.no,.no,.no,⟨none,[],[3]⟩,.no,.no,⟨none,[3],[]⟩] 4 4 mixed rfl rfl (by decide) ?_;simp only[go_sem,cM,mA,gf,dA,h];refine jS j_ (by simp only[Li.side,cq,if_true,aX,if_false];exact bL _ _ _) (by simp[go_sem,cV,cY]) ?_;generalize hy:(l.side false).jy s.p u=y at *
  simp only[go_sem,dO,mA,gf,dA,h];have he:(lits c).set i (jl (c_ l.aH) [.bool l.neg,.int .i64 y.head,.ps 2 (y.args.map Tm.aH),.int .i64 l.r.head,.ps 2 (l.r.args.map Tm.aH)])=lits (c.set i (l.rK false y)):=by
   rw[show jl (c_ l.aH) [.bool l.neg,.int .i64 y.head,.ps 2 (y.args.map Tm.aH),.int .i64 l.r.head,.ps 2 (l.r.args.map Tm.aH)]=(l.rK false y).aH from rfl]
   simp[lits,l9]
  rw[he];refine⟨by omega,?_⟩;refine aC.g ?_;simp only[go_sem,dA,bg];rw[aO (by rw[dA,bg];exact ae _)];exact bL _ _ _
def mE:List (Int×Int)->Int->Int->List (Int×Int)
 |[],k,s=>[(k,s)]
 |x :: r,k,s=>if x.1=k then (x.1,x.2+s):: r else x :: mE r k s
def gN:List (Int×Int)->Int->Int
 |[],_=>0
 |x :: r,k=>if x.1=k then x.2 else gN r k
def lh (l:List (Int×Int)):List ah:=ints (l.map Prod.fst)
def m0 (l:List (Int×Int)):List ah:=ints (l.map Prod.snd)
theorem uk {n:Nat}(l:List (Int×Int)):bG n (lh l)/\bG n (m0 l):=⟨cY _,cY _⟩
theorem Yk9 (l:List (Int×Int))(v:Int):(lh l).all (sameKind (.int .i64 v))=true:=by simp[lh,ints,sameKind]
theorem K5 (x:Int×Int)(r:List (Int×Int)):lh (x :: r)=.int .i64 x.1 :: lh r:=rfl
theorem KZ (x:Int×Int)(r:List (Int×Int)):m0 (x :: r)=.int .i64 x.2 :: m0 r:=rfl
theorem NU (k:Int):∀(l:List (Int×Int)) (n:Nat),(match fR (.int .i64 k) (lh l) n with
  |some i=>n<=i/\(m0 l).getD (i-n) .undef=.int .i64 (gN l k)/\∀s,((lh l)=lh (mE l k s)/\(m0 l).set (i-n) (.int .i64 (gN l k+s))=m0 (mE l k s))
  |none=>gN l k=0/\∀s,lh l++[.int .i64 k]=lh (mE l k s)/\m0 l++[.int .i64 s]=m0 (mE l k s))
 |[],n=>⟨rfl,λs=>⟨rfl,rfl⟩⟩
 | x :: r,n=>by
  have ih:=NU k r (n+1);rw[K5,KZ];simp only[fR,gN,mE];by_cases c:x.1=k
  ·have hc:fP (.int .i64 k) (.int .i64 x.1)=true:=by simp[fP,c]
   rw[hc,if_pos rfl];simp only[if_pos c];refine⟨ae _,?_,λs=>?_⟩
   ·simp[List.getD]
   ·rw[dF,K5,KZ];exact⟨rfl,rfl⟩
  ·have hc:fP (.int .i64 k) (.int .i64 x.1)=false:=by simp only[fP,beq_eq_false_iff_ne];exact λe=>c e.symm
   rw[hc];simp only[aX,if_false,if_neg c];split at ih
   ·rename_i i _;obtain⟨h1,h2,h3⟩:=ih;have hi:i-n=(i-(n+1))+1:=by omega
    refine⟨by omega,?_,λs=>?_⟩
    ·rw[hi,bE];exact h2
    ·obtain⟨q1,q2⟩:=h3 s;rw[hi,cu,K5,KZ,<-q1,<-q2];exact⟨rfl,rfl⟩
   ·obtain⟨h1,h2⟩:=ih;refine⟨h1,λs=>?_⟩;obtain⟨q1,q2⟩:=h2 s;rw[K5,KZ,<-q1,<-q2];exact⟨rfl,rfl⟩
theorem Zvm (l:List (Int×Int))(k:Int):fT (lh l) (m0 l) (.int .i64 0) (.int .i64 k) false=.int .i64 (gN l k):=by
 have h:=NU k l 0;unfold fT;cases hk:fR (.int .i64 k) (lh l) 0 with
 |some i=>rw[hk]at h;simpa using h.2.1
 |none=>rw[hk]at h;simp only[aX,if_false];rw[h.1]
theorem Zwy (l:List (Int×Int))(k s:Int):jN (lh l) (m0 l) (.int .i64 k) (.int .i64 (gN l k+s))=(lh (mE l k s),m0 (mE l k s)):=by
 have h:=NU k l 0;unfold jN;cases hk:fR (.int .i64 k) (lh l) 0 with
 |some i=>rw[hk]at h;obtain⟨q1,q2⟩:=h.2.2 s;simp only;rw[<-q1,<-q2,gU]
 |none=>rw[hk]at h;obtain⟨q1,q2⟩:=h.2 s;simp only;rw[h.1,Int.zero_add,q1,q2]
def nG (g:List Sy)(h:Int):Int:=((g[h.toNat]?).map Sy.weight).getD 0
mutual
def uK (g:List Sy)(s:Int):Tm->Int×List (Int×Int)->Int×List (Int×Int)
 |.mk h ts,x=>if h<0 then (x.1+s,mE x.2 h s) else qc g s ts (x.1+s*nG g h,x.2)
def qc (g:List Sy)(s:Int):List Tm->Int×List (Int×Int)->Int×List (Int×Int)
 |[],x=>x
 |t :: ts,x=>qc g s ts (uK g s t x)
end
mutual
def Tm.Dk (g:List Sy):Tm->Prop
 |.mk h ts=>h<g.length/\Tm.Bj g ts
def Tm.Bj (g:List Sy):List Tm->Prop
 |[]=>True
 |t :: ts=>t.Dk g/\Tm.Bj g ts
end
theorem GY {g:List Sy}{t:Tm}(h:t.Dk g):t.head<g.length:=by cases t;exact h.1
theorem Pk {g:List Sy}{t:Tm}(h:t.Dk g):Tm.Bj g t.args:=by cases t;exact h.2
theorem LG {g:List Sy}:∀ {ts:List Tm},Tm.Bj g ts->∀t∈ts,t.Dk g
 |x :: ts,h,t,ht=>by
  rcases aU.1 ht with rfl|ht
  ·exact h.1
  ·exact LG h.2 t ht
def sJ (B:Int)(x:Int×List (Int×Int)):Prop:=-B<=x.1/\x.1<=B/\∀y∈x.2, -B<=y.2/\y.2<=B
theorem K2 {B C:Int}{x:Int×List (Int×Int)}(h:sJ B x)(hc:B<=C):sJ C x:=⟨by have:=h.1;omega,by have:=h.2.1;omega,λy hy=>⟨by have:=(h.2.2 y hy).1;omega,by have:=(h.2.2 y hy).2;omega⟩⟩
theorem TL {B s:Int} (h0 : 0<=B) (hs:s=1\/s = -1):∀(l:List (Int×Int)) (k:Int),(∀y∈l, -B<=y.2/\y.2<=B)->∀y∈mE l k s, -(B+1)<=y.2/\y.2<=B+1
 |[],k,_,y,hy=>by rw[aK.1 hy];simp only;omega
 | x :: r,k,h,y,hy=>by
  have hx:=h x (by simp);simp only[mE]at hy;split at hy
  ·rcases aU.1 hy with rfl|hy
   ·simp only;omega
   ·have:=h y (by simp[hy]);omega
  ·rcases aU.1 hy with rfl|hy
   ·omega
   ·exact TL h0 hs r k (λz hz=>h z (by simp[hz])) y hy
theorem ZB {B:Int} (h0 : 0<=B):∀(l:List (Int×Int)) (k:Int),(∀y∈l, -B<=y.2/\y.2<=B)->-B<=gN l k/\gN l k<=B
 |[],k,_=>by simp only[gN];omega
 |x :: r,k,h=>by
  simp only[gN];split
  ·exact h x (by simp)
  ·exact ZB h0 r k λz hz=>h z (by simp[hz])
def uD (g:List Sy):Prop:=∀s∈g, -1000000<=s.weight/\s.weight<=1000000
theorem LM {g:List Sy}(hg:uD g)(h:Int): -1000000<=nG g h/\nG g h<=1000000:=by
 unfold nG;cases hq:g[h.toNat]? with
 |none=>simp
 |some s=>exact hg s (nn hq)
mutual
theorem Md {g:List Sy} (hg:uD g) {s:Int} (hs:s=1\/s = -1):∀(t:Tm) (x:Int×List (Int×Int)) (B:Int),0<=B->sJ B x->sJ (B+1000000*t.size) (uK g s t x)
 | .mk h ts,x,B,h0,hx=>by
  rw[uK,Tm.size];have hw:=LM hg h;split
  ·refine K2 (B:=B+1) ⟨?_,?_,TL h0 hs _ _ hx.2.2⟩ (by omega)
   ·have:=hx.1;simp only;omega
   ·have:=hx.2.1;simp only;omega
  ·have h1:sJ (B+1000000) (x.1+s*nG g h,x.2):=by
    refine⟨?_,?_,λy hy=>by have:=hx.2.2 y hy;omega⟩
    ·have:=hx.1;rcases hs with rfl|rfl<;>simp only<;>omega
    ·have:=hx.2.1;rcases hs with rfl|rfl<;>simp only<;>omega
   exact K2 (Uc hg hs ts _ _ (by omega) h1) (by omega)
theorem Uc {g:List Sy} (hg:uD g) {s:Int} (hs:s=1\/s = -1):∀(ts:List Tm) (x:Int×List (Int×Int)) (B:Int),0<=B->sJ B x->sJ (B+1000000*Tm.bw ts) (qc g s ts x)
 |[],x,B,h0,hx=>by rw[qc];exact K2 hx (by simp[Tm.bw])
 |t :: ts,x,B,h0,hx=>by
  rw[qc,Tm.bw];exact K2 (Uc hg hs ts _ _ (by omega) (Md hg hs t x B h0 hx)) (by omega)
end
def rZ (x:Int×List (Int×Int)):av:=[some (.map (lh x.2) (m0 x.2) false),some (.var [.int .i64 x.1,.map 0])]
theorem U6 (g:List Sy) (hg:uD g) (mA:g.length<1000000) (s:Int) (hs:s=1\/s = -1):∀(n:Nat) (t:Tm) (x:Int×List (Int×Int)) (B:Int),t.size<=n->t.size<100000000->t.Dk g->t.fit->0<=B->sJ B x->B+1000000*t.size<=1000000000000000 ->
  ak Tryz.prog (.fn 212 [] []) [.ptr 1 0,.ps 4 (syms g),t.aH,.int .i64 s] (rZ x) (λr σ'=>r=.dw []/\σ'=rZ (uK g s t x))
 |0,t,_,_,h,_,_,_,_,_,_=>by have:=n9 t;omega
 | n+1,t,x,B,hn,eM,fA,hft,h0,hx,hB=>by
  unfold rZ;refine ak.begin (rs:=[]) (m:=54) 1000 Tryz.func212 rfl rfl rfl rfl rfl ?_;have A8:=n9 t;have nw:=mH t.args;obtain⟨x1,x2,x3⟩:=hx;have Rn:=GY fA;by_cases dP:t.head<0
  ·have tD:uK g s t x=(x.1+s,mE x.2 t.head s):=by cases t;rw[uK];exact if_pos dP
   have sW:IntKind.i64.wrap (x.1+s)=x.1+s:=dt (by rcases hs with rfl|rfl<;>omega);have iG:=ZB h0 x.2 t.head x3;have lE:IntKind.i64.wrap (gN x.2 t.head+s)=gN x.2 t.head+s:=dt (by rcases hs with rfl|rfl<;>omega);rw[tD];simp only[go_sem,dO,dP,sW];refine aC.draw [.no,.no,.no,.no,.no,.no,.no,.no,.no,⟨none,[0],[]⟩] 3 3 mixed rfl rfl (by decide) ?_;simp only[go_sem,cM,Yk9,Zvm,lE,Zwy];refine aC.g ?_;simp only[go_sem];rw[gy];exact⟨rZ (x.1+s,mE x.2 t.head s),by simp[rZ,go_sem],by simp[rZ],by simp[rZ,go_sem,uk],trivial,rfl,rfl⟩
  ·simp only[go_sem,dO,dP];have hht:t.head.toNat<g.length:=by omega
   have Jp:=sv hht;have yD:nG g t.head=(g[t.head.toNat]).weight:=by simp[nG,hht]
   have hwb:=LM hg t.head;have tD:uK g s t x=qc g s t.args (x.1+s*nG g t.head,x.2):=by cases t;rw[uK];exact if_neg dP
   have sW:IntKind.i64.wrap (s*nG g t.head)=s*nG g t.head:=dt (by rcases hs with rfl|rfl<;>omega);have lE:IntKind.i64.wrap (x.1+s*nG g t.head)=x.1+s*nG g t.head:=dt (by rcases hs with rfl|rfl<;>omega);have RK:sJ (B+1000000) (x.1+s*nG g t.head,x.2):=by
    refine⟨?_,?_,λy hy=>by have:=x3 y hy;omega⟩
    ·rcases hs with rfl|rfl<;>simp only<;>omega
    ·rcases hs with rfl|rfl<;>simp only<;>omega
   rw[tD];generalize xS:x.1+s*nG g t.head=x1' at *
   refine aC.draw [.no,.no,.no,.no,.no,.no,.no,.no,.no,.no,.no,.no,.no,.no,.no,⟨none,[1],[]⟩] 3 3 mixed rfl rfl (by decide) ?_;simp only[go_sem,cM,na,Jp,sw,<-yD,sW,xS,lE];refine⟨⟨by omega,Rn⟩,?_⟩;refine aC.g ?_;simp only[go_sem,ao];obtain⟨F,hF⟩:∃F,qc g s t.args (x1',x.2)=F:=⟨_,rfl⟩;rw[hF];refine aC.cA (ι:={q:Nat×(Int×List (Int×Int)) // q.1<=t.args.length/\qc g s (t.args.drop q.1) q.2=F/\∃C,0<=C/\sJ C q.2/\C+1000000*Tm.bw (t.args.drop q.1)<=1000000000000000}) 1000
    (λq=>dV 58 [(0,.ptr 1 0),(1,.ps 4 (syms g)),(3,.int .i64 s),(46,.ps 2 (t.args.map Tm.aH)),(47,.int .i64 t.args.length),(48,.int .i64 q.1.1)]) (λq=>rZ q.1.2) (λq=>t.args.length-q.1.1)
    ⟨(0,(x1',x.2)),by simp only[dQ];exact⟨aj _,hF,B+1000000,by omega,RK,by omega⟩⟩ ?_ (λ_=>by simp[rZ]) ?_
   ·unfold rZ;simp only[go_sem,cS,bC,uk]
   ·rintro ⟨⟨i,y⟩,hi,aD,C,ZT,QD,QF⟩;simp only at hi aD QD QF;by_cases bx:(i:Int)<t.args.length
    ·have aL:i<t.args.length:=by omega
     have hw:=W1' i (by omega)
     have wb:(t.args.map Tm.aH).getD i .undef=t.args[i].aH:=jT aL;have j0:=ay aL;have hui:=LG (Pk fA) _ j0;have huf:=yY (zH hft) _ j0;have qU:=sO j0;rw[ai aL]at aD QF;rw[qc]at aD;rw[Tm.bw]at QF;generalize t.args[i]=u at *
     unfold rZ;simp only[go_sem,bx,ao,wb,dO];refine⟨by omega,?_⟩;rw[<-cq u];have hI:∀b,b<2->b=0\/b=1:=λb hb=>by omega
     have hL:bG 2 [ah.ptr 1 0,.ps 4 (syms g),u.aH,.int .i64 s]:=⟨cQ 1,cS _,cV u,trivial,trivial⟩;refine ak.kI (Z:=rZ y) (f:=.fn 212 [] []) (args:=[ah.ptr 1 0,.ps 4 (syms g),u.aH,.int .i64 s]) (λb=>b) (λb b' h1 h2 e=>e) (λb hb=>Nat.lt_succ_of_lt hb) (λb hb=>?_) (by simp[go_sem]) rfl hL (sP _ 2 (λ_ _=>rfl) _ hL) (by simp[rZ,go_sem,uk]) (U6 g hg mA s hs n u y C (by omega) (by omega) hui huf ZT QD (by omega)) ?_
     ·rcases hI b hb with rfl|rfl
      ·refine⟨_,rfl,?_⟩;simp[eo,bT (uk y.2).1,bT (uk y.2).2]
      ·exact⟨_,rfl,rfl⟩
     rintro r Z' ⟨rfl,rfl⟩;refine⟨by simp[rZ],by simp[rZ,go_sem,uk],trivial,?_⟩;have QE:=Md hg hs u y C ZT QD;generalize uK g s u y=z at *
     simp only[go_sem,rZ,ix,eQ,lX,aI,aR,bT (uk z.2).1,bT (uk z.2).2];refine aC.g ?_;simp only[go_sem,hw];refine⟨⟨(i+1,z),by simp only;omega,aD,C+1000000*u.size,by omega,QE,by simp only;omega⟩,?_,by simp only;omega⟩;simp only[go_sem,cS,bC,uk]
    ·have dm:i=t.args.length:=by omega
     subst dm;rw[aJ,qc]at aD;subst aD;unfold rZ;simp only[go_sem,bx];refine aC.g ?_;simp only[go_sem];rw[gy];exact⟨rZ y,by simp[rZ,go_sem],by simp[rZ],by simp[rZ,go_sem,uk],trivial,rfl,rfl⟩
def wk (x:Int×List (Int×Int))(n:Int):Int:=oo n ((x.2.map Prod.snd).any λn=>decide (0<n)) ((x.2.map Prod.snd).any λn=>decide (n<0))
def pw (g:List Sy)(t u:Tm):Int×List (Int×Int):=uK g (-1) u (uK g 1 t (0,[]))
mutual
def eT (g:List Sy):Tm->Tm->Int
 |.mk h ts,u=>if Tm.mk h ts=u then 0 else
  if (pw g (.mk h ts) u).1≠0 then wk (pw g (.mk h ts) u) (pw g (.mk h ts) u).1 else
  if h<0\/u.head<0 then 2 else if h≠u.head then wk (pw g (.mk h ts) u) (h-u.head) else iL g (pw g (.mk h ts) u) ts u.args
def iL (g:List Sy)(x:Int×List (Int×Int)):List Tm->List Tm->Int
 |[],_=>0
 |_ :: _,[]=>0
 |t :: ts,u :: us=>if eT g t u≠0 then (if eT g t u=2 then 2 else wk x (eT g t u)) else iL g x ts us
end
def CP (g:List Sy)(h:Int):Int:=((g[h.toNat]?).map Sy.arity).getD 0
mutual
def Tm.E6 (g:List Sy):Tm->Prop
 |.mk h ts=>(0<=h->(ts.length:Int)=CP g h)/\Tm.Ag g ts
def Tm.Ag (g:List Sy):List Tm->Prop
 |[]=>True
 |t :: ts=>t.E6 g/\Tm.Ag g ts
end
theorem L8 {g:List Sy}{t:Tm}(h:t.E6 g)(h0 : 0<=t.head):(t.args.length:Int)=CP g t.head:=by cases t;exact h.1 h0
theorem Ykw {g:List Sy}{t:Tm}(h:t.E6 g):Tm.Ag g t.args:=by cases t;exact h.2
theorem Td {g:List Sy}:∀ {ts:List Tm},Tm.Ag g ts->∀t∈ts,t.E6 g
 |x :: ts,h,t,ht=>by
  rcases aU.1 ht with rfl|ht
  ·exact h.1
  ·exact Td h.2 t ht
def kj (g:List Sy)(t:Tm):Prop:=t.size<100000000/\t.Dk g/\t.E6 g/\t.fit
theorem Pg {g:List Sy}{t u:Tm}(h:kj g t)(hu:u∈t.args):kj g u:=by
 have h1:=sO hu;have h2:=n9 t;exact⟨by have:=h.1;omega,LG (Pk h.2.1) u hu,Td (Ykw h.2.2.1) u hu,yY (zH h.2.2.2) u hu⟩
theorem Vb (g:List Sy) (hg:uD g) (mA:g.length<1000000) (s:Int) (hs:s=1\/s = -1) (t:Tm) (x:Int×List (Int×Int)) (B:Int) (ht:kj g t) (h0 : 0<=B) (hx:sJ B x) (hB:B+1000000*t.size<=1000000000000000) (a0 a1:Option bS) {K:ah->av->Prop}
  (hK:K (.dw []) [a0,a1,some (.map (lh (uK g s t x).2) (m0 (uK g s t x).2) false),some (.var [.int .i64 (uK g s t x).1,.map 2])]) :
  ak Tryz.prog (.fn 212 [] []) [.ptr 3 0,.ps 4 (syms g),.agg [.int .i64 t.head,.ps 2 (t.args.map Tm.aH)],.int .i64 s] [a0,a1,some (.map (lh x.2) (m0 x.2) false),some (.var [.int .i64 x.1,.map 2])] K:=by
 have hI:∀b,b<2->b=0\/b=1:=λb hb=>by omega
 have hL:bG 2 [ah.ptr 1 0,.ps 4 (syms g),t.aH,.int .i64 s]:=⟨cQ 1,cS _,cV t,trivial,trivial⟩;rw[<-cq t];refine ak.kI (Z:=rZ x) (f:=.fn 212 [] []) (args:=[ah.ptr 1 0,.ps 4 (syms g),t.aH,.int .i64 s]) (λb=>b+2) (λb b' h1 h2 e=>by omega) (λb hb=>by have:b<2:=hb;simp;omega) (λb hb=>?_) (by simp[go_sem]) rfl hL ?_ (by simp[rZ,go_sem,uk]) (U6 g hg mA s hs t.size t x B (ae _) ht.1 ht.2.1 ht.2.2.2 h0 hx hB) ?_
 ·rcases hI b hb with rfl|rfl
  ·refine⟨_,rfl,?_⟩;simp[eo,bT (uk x.2).1,bT (uk x.2).2]
  ·exact⟨_,rfl,rfl⟩
 ·simp only[eC,ez,bT (cS _),zJ (H_ t),Nat.reduceAdd]
 rintro r Z' ⟨rfl,rfl⟩;refine⟨by simp[rZ],by simp[rZ,go_sem,uk],trivial,?_⟩;generalize uK g s t x=z at *
 simp only[go_sem,rZ,ix,eQ,lX,aI,aR,bT (uk z.2).1,bT (uk z.2).2];exact hK
theorem O_ (g:List Sy) (hg:uD g) (mA:g.length<1000000):∀(n:Nat) (t u:Tm),t.size<=n->kj g t->kj g u->az Tryz.prog 195 [.ps 4 (syms g),t.aH,u.aH] (.int .i64 (eT g t u))
 |0,t,_,h,_,_=>by have:=n9 t;omega
 | n+1,t,u,hn,ht,hu=>by
  refine az.begin (rs:=[.tmp 6]) (m:=82) 1000 Tryz.func195 rfl rfl rfl (by decide) trivial ?_;have gE:eT g t u=if t=u then 0 else if (pw g t u).1≠0 then wk (pw g t u) (pw g t u).1 else if t.head<0\/u.head<0 then 2 else if t.head≠u.head then wk (pw g t u) (t.head-u.head) else iL g (pw g t u) t.args u.args:=by
   cases t;rw[eT];rfl
  simp only[go_sem,dO];refine ak.bm [] (CB t u (by have:=ht.1;omega) (by have:=hu.1;omega)) (by(try simp only[cq]);exact bL _ _ _) (by simp[go_sem,cV,bC]) ?_;simp only[bj,bA,bz,if_true];refine aC.g ?_
  by_cases he:t=u
  ·rw[gE,if_pos he];simp only[go_sem,he]
  ·rw [if_neg he]at gE;simp only[go_sem,he];have ht1:=ht.1;have R6:=hu.1;have ok0:sJ 0 (0,[]):=⟨by simp,by simp,λy hy=>by cases hy⟩;have ok1:=Md hg (.inl rfl) t (0,[]) 0 (by omega) ok0;refine Vb g hg mA 1 (.inl rfl) t (0,[]) 0 ht (by omega) ok0 (by omega) _ _ ?_;refine aC.g ?_;simp only[go_sem];refine Vb g hg mA (-1) (.inr rfl) u _ _ hu (by omega) ok1 (by omega) _ _ ?_;have jB:=Md hg (.inr rfl) u _ _ (by omega) ok1;have uH:∀n,az Tryz.prog 213 [.pp [.int .i64 (pw g t u).1,.pm (lh (pw g t u).2) (m0 (pw g t u).2)],.int .i64 n] (.int .i64 (wk (pw g t u) n)):=λn=>Yru _ n _ _ (by simp[lh,ints]) (uk _).1;rw[show uK g (-1) u (uK g 1 t (0,[]))=pw g t u from rfl]at jB ⊢
   generalize pw g t u=x at *
   refine aC.IX (q:=2) (b:=3) rfl rfl (by decide) ?_;refine aC.g ?_;have xI:rv 2 (lh x.2) (m0 x.2) t.aH=t.aH:=by rw[cq];rfl
   have p9:rv 2 (lh x.2) (m0 x.2) u.aH=u.aH:=by rw[cq];rfl
   by_cases h1:x.1=0
   ·rw [if_neg (by simp[h1])]at gE;rw[h1]at uH;by_cases c1:t.head<0
    ·rw[if_pos (.inl c1)]at gE;rw[gE];simp only[go_sem,aI,aR,h1,xI,p9,c1]
    ·by_cases c2:u.head<0
     ·rw[if_pos (.inr c2)]at gE;rw[gE];simp only[go_sem,aI,aR,h1,xI,p9,c1,c2]
     ·rw [if_neg (by simp[c1,c2])]at gE;have i1:=GY ht.2.1;have i2:=GY hu.2.1;by_cases c3:t.head=u.head
      ·rw [if_neg (by simp[c3])]at gE;have II:¬u.head<0:=c2;simp only[go_sem,aI,aR,h1,xI,p9,c3,II,ao];have hlen:t.args.length=u.args.length:=by
        have l1:=L8 ht.2.2.1 (by omega);have l2:=L8 hu.2.2.1 (by omega);rw[c3,<-l2]at l1;omega
       have nw:=mH t.args;have A8:=n9 t;refine aC.cA (ι:={i:Nat // i<=t.args.length/\iL g x (t.args.drop i) (u.args.drop i)=eT g t u}) 1000
        (λq=>dV 85 [(0,.ps 4 (syms g)),(4,.ptr 0 0),(5,.ptr 1 0),(6,.int .i64 0),(7,.ptr 3 0),(25,.ps 2 (t.args.map Tm.aH)),(26,.int .i64 t.args.length),(27,.int .i64 q.1)])
        (λ_=>[some (.var [.int .i64 u.head,.ps 2 (t.args.map Tm.aH)]),some (.var [.int .i64 u.head,.ps 2 (u.args.map Tm.aH)]),none,some (.var [.int .i64 0,.pm (lh x.2) (m0 x.2)])]) (λq=>t.args.length-q.1) ⟨0,by simp[gE]⟩ ?_ (λ_=>aj _) ?_
       ·simp only[go_sem,cS,bC,uk]
       ·rintro ⟨i,hi,aD⟩;by_cases bx:(i:Int)<t.args.length
        ·have aL:i<t.args.length:=by omega
         have Mw:i<u.args.length:=by omega
         have hw:=W1' i (by omega)
         have uE:(t.args.map Tm.aH).getD i .undef=t.args[i].aH:=jT aL;have xJ:(u.args.map Tm.aH).getD i .undef=u.args[i].aH:=jT Mw;have yy:=ay aL;have o1:=Pg ht yy;have o2:=Pg hu (ay Mw);have sI:=sO yy;have pq:=O_ g hg mA n t.args[i] u.args[i] (by omega) o1 o2;rw[ai aL,ai Mw,iL]at aD;generalize t.args[i]=y at *
         generalize u.args[i]=z at *
         generalize eT g y z=r at *
         have hlI:(i:Int)<u.args.length:=by omega
         simp only[go_sem,bx];refine aC.draw [] 4 4 mixed rfl rfl (by decide) ?_;simp only[go_sem,cM,ao,uE,xJ,dO];refine⟨⟨by omega,bx⟩,⟨by omega,hlI⟩,?_⟩;refine jS pq (by simp only[cq,aY,bf];exact bL _ _ _) (by simp[go_sem,cV,cS]) ?_;simp only[go_sem];by_cases r0:r=0
         ·rw[if_neg (by simp[r0])]at aD;refine aC.g ?_;simp only[go_sem,r0,hw];refine⟨⟨i+1,by omega,aD⟩,?_,by simp only;omega⟩;simp only[go_sem,cS,bC,uk]
         ·rw [if_pos r0]at aD;by_cases r2:r=2
          ·rw[if_pos r2]at aD;refine aC.g ?_;simp only[go_sem,r0,r2];refine aC.g ?_;simp only[go_sem,<-aD]
          ·rw[if_neg r2]at aD;refine aC.g ?_;simp only[go_sem,r0,r2];refine ak.vM (b:=3) (cs:=[.int .i64 0,.pm (lh x.2) (m0 x.2)]) [] rfl (uH r) ?_ ?_ rfl ?_
           ·exact bL _ _ _
           ·simp[go_sem,uk]
           refine aC.g ?_;simp only[go_sem];refine aC.g ?_;simp only[go_sem,<-aD]
        ·have dm:i=t.args.length:=by omega
         subst dm;rw[aJ,iL]at aD;simp only[go_sem,bx];refine aC.g ?_;simp only[go_sem,<-aD]
      ·rw[if_pos c3]at gE;have hw:IntKind.i64.wrap (t.head-u.head)=t.head-u.head:=dt (by omega);simp only[go_sem,aI,aR,h1,xI,p9,c1,c2,c3,hw];refine ak.vM (b:=3) (cs:=[.int .i64 0,.pm (lh x.2) (m0 x.2)]) [] rfl (uH (t.head-u.head)) ?_ ?_ rfl ?_
       ·exact bL _ _ _
       ·simp[go_sem,uk]
       refine aC.g ?_;simp only[go_sem,gE]
   ·rw[if_pos h1]at gE;simp only[go_sem,aI,aR,h1,xI,p9];refine ak.vM (b:=3) (cs:=[.int .i64 x.1,.pm (lh x.2) (m0 x.2)]) [] rfl (uH x.1) ?_ ?_ rfl ?_
    ·exact bL _ _ _
    ·simp[go_sem,uk]
    refine aC.g ?_;simp only[go_sem,gE]
def fv (g:List Sy):List Tm->Int
 |[]=>0
 |t :: ts=>if t.term g=0 then fv g ts else t.term g
theorem Xa (g:List Sy) (ts:List Tm) (hl:ts.length<100000000) (ht:∀t∈ts,t.size<99999999):az Tryz.prog 194 [.ps 4 (syms g),.ps 2 (ts.map Tm.aH)] (.int .i64 (fv g ts)):=by
 refine az.begin (rs:=[.tmp 4]) (m:=19) 1000 Tryz.func194 rfl rfl rfl (by decide) trivial ?_;simp only[go_sem,ao];refine aC.cA (ι:={i:Nat // i<=ts.length/\fv g (ts.drop i)=fv g ts}) 1000 (λq=>dV 21 [(0,.ps 4 (syms g)),(4,.int .i64 0),(8,.ps 2 (ts.map Tm.aH)),(9,.int .i64 ts.length),(10,.int .i64 q.1)])
  (λ_=>[]) (λq=>ts.length-q.1) ⟨0,by simp⟩ ?_ (λ_=>aj _) ?_
 ·simp only[go_sem,cS,bC]
 ·rintro⟨i,hi,aD⟩;by_cases bx:(i:Int)<ts.length
  ·have aL:i<ts.length:=by omega
   have hw:=W1' i (by omega)
   have uE:(ts.map Tm.aH).getD i .undef=ts[i].aH:=jT aL;have hm:=ht _ (ay aL);have htw:=Pr g ts[i] (by omega);rw[ai aL,fv]at aD;generalize ts[i]=t at *
   simp only[go_sem,bx,ao,uE,dO];refine⟨by omega,?_⟩;refine ak.bm [] (htw) (by(try simp only[cq]);exact bL _ _ _) (by simp[go_sem,cV,bC,cS]) ?_;simp only[bj,bA,bz,if_true];refine aC.g ?_
   by_cases h:t.term g=0
   ·rw[if_pos h]at aD;simp only[go_sem,h,hw];refine⟨⟨i+1,by omega,aD⟩,?_,by simp only;omega⟩;simp only[go_sem,cS,bC]
   ·rw[if_neg h]at aD;simp only[go_sem,h];refine aC.g ?_;simp only[go_sem,aD]
  ·have dm:i=ts.length:=by omega
   subst dm;rw[aJ,fv]at aD;simp only[go_sem,bx];refine aC.g ?_;simp only[go_sem,<-aD]
theorem Zvp (g:List Sy) (hg:uD g) (mA:g.length<1000000) (t u:Tm) (ht:t.size<99999999) (hu:u.size<99999999) (jB:fv g [t,u]=0->kj g t/\kj g u) :
  az Tryz.prog 171 [.ps 4 (syms g),t.aH,u.aH] (.dw [.int .i64 (if fv g [t,u]=0 then eT g t u else 0),.int .i64 (fv g [t,u])]):=by
 refine az.begin (rs:=[.tmp 6,.tmp 7]) (m:=18) 1000 Tryz.func171 rfl rfl rfl (by decide) ⟨trivial,trivial,trivial⟩ ?_;have hw:=Xa g [t,u] (by simp) (λy hy=>by simp at hy;rcases hy with rfl|rfl<;>assumption);simp only[go_sem,dO];refine ak.bm [2] hw ?_ (by simp[go_sem,cV,cS]) ?_
 ·simp only[go_sem,cq,aI,aR]
 simp only[bj,bA,bz,if_true];refine aC.g ?_;by_cases h:fv g [t,u]=0
 ·obtain⟨o1,o2⟩:=jB h;rw[if_pos h];simp only[go_sem,h];refine ak.bm [] (O_ g hg mA t.size t u (ae _) o1 o2) (by(try simp only[cq]);exact bL _ _ _) (by simp[go_sem,cV,bC,cS]) ?_;simp only[bj,bA,bz,if_true];refine aC.g ?_
  simp only[go_sem]
 ·rw[if_neg h];simp only[go_sem,h]
def sY (l:Li):Prop:=l.l.size<999999999/\l.r.size<999999999
def mh (a b:Li):Bool:=(decide (a.l=b.l)&&decide (a.r=b.r))||(decide (a.l=b.r)&&decide (a.r=b.l))
theorem W6 (a b:Li) (ha:sY a) (hb:sY b):az Tryz.prog 102 [a.aH,b.aH] (.bool (mh a b)):=by
 refine az.begin (rs:=[.tmp 4]) (m:=29) 1000 Tryz.func102 rfl rfl rfl (by decide) trivial ?_;obtain⟨a1,a2⟩:=ha;obtain⟨b1,b2⟩:=hb;have s1:=CB a.l b.l (by omega) (by omega);have s2:=CB a.r b.r (by omega) (by omega);have s3:=CB a.l b.r (by omega) (by omega);have s4:=CB a.r b.l (by omega) (by omega);unfold mh;generalize decide (a.l=b.l)=p1 at *
 generalize decide (a.r=b.r)=p2 at *
 generalize decide (a.l=b.r)=p3 at *
 generalize decide (a.r=b.l)=p4 at *
 simp only[go_sem,gf];refine ak.bm [] (s1) (by(try simp only[cq]);exact bL _ _ _) (by simp[go_sem,cV,bC]) ?_;simp only[bj,bA,bz,if_true];refine aC.g ?_
 cases p1
 ·simp only[go_sem];refine ak.bm [] (s3) (by(try simp only[cq]);exact bL _ _ _) (by simp[go_sem,cV,bC]) ?_;simp only[bj,bA,bz,if_true];refine aC.g ?_
  cases p3
  ·simp only[go_sem,bU,fX]
  ·simp only[go_sem];refine ak.bm [] (s4) (by(try simp only[cq]);exact bL _ _ _) (by simp[go_sem,cV,bC]) ?_;simp only[bj,bA,bz,if_true];refine aC.g ?_
   simp only[go_sem,bU,cD,bO]
 ·simp only[go_sem];refine ak.bm [] (s2) (by(try simp only[cq]);exact bL _ _ _) (by simp[go_sem,cV,bC]) ?_;simp only[bj,bA,bz,if_true];refine aC.g ?_
  cases p2
  ·simp only[go_sem];refine ak.bm [] (s3) (by(try simp only[cq]);exact bL _ _ _) (by simp[go_sem,cV,bC]) ?_;simp only[bj,bA,bz,if_true];refine aC.g ?_
   cases p3
   ·simp only[go_sem,bU,f_,fX]
   ·simp only[go_sem];refine ak.bm [] (s4) (by(try simp only[cq]);exact bL _ _ _) (by simp[go_sem,cV,bC]) ?_;simp only[bj,bA,bz,if_true];refine aC.g ?_
    simp only[go_sem,f_,cD,bO]
  ·simp only[go_sem,m9,dE]
theorem SH (a b:Li)(ha:sY a)(hb:sY b):az Tryz.prog 65 [a.aH,b.aH] (.bool (decide (a.neg=b.neg)&&mh a b)):=by
 refine az.begin (rs:=[.tmp 4]) (m:=13) 1000 Tryz.func65 rfl rfl rfl (by decide) trivial ?_;have h:=W6 a b ha hb;simp only[go_sem,gf];have hd:decide (a.neg=b.neg)=(a.neg==b.neg):=rfl;rw[hd];cases c:a.neg==b.neg
 ·simp only[go_sem,c,bU]
 ·simp only[go_sem,c];refine ak.bm [] h (bL _ _ _) ⟨jU _,jU _,trivial⟩ ?_;simp only[bj,bA,bz,if_true];refine aC.g ?_;simp only[go_sem,bO]
def kO (l:Li):List Tm:=if l.neg then [l.l,l.l,l.r,l.r] else [l.l,l.r]
theorem Uk (l:Li):az Tryz.prog 216 [l.aH] (.ps 2 ((kO l).map Tm.aH)):=by
 refine az.begin (rs:=[.tmp 2]) (m:=18) 1000 Tryz.func216 rfl rfl rfl (by decide) (bC _) ?_;unfold kO;cases h:l.neg
 ·simp only[go_sem,gf,h,aX,if_false,aI,aR];rw[cq l.l,cq l.r];exact⟨nH _ _ _,nH _ _ _⟩
 ·simp only[go_sem,gf,h,if_true,aI,aR];rw[cq l.l,cq l.r]
  repeat (first|exact nH _ _ _|exact bL _ _ _|refine⟨nH _ _ _,?_⟩)
def rk (l:List Tm)(i:Nat):List Tm:=l.take i++l.drop (i+1)
def eV:List Tm->List Tm->List Tm
 |[],_=>[]
 |t :: a,b=>if eF (λx=>decide (t=x)) b 0<0 then t :: eV a b else eV a (rk b (eF (λx=>decide (t=x)) b 0).toNat)
theorem Zwq (l:List Tm) (hl:l.length<=1000000000):ak Tryz.prog (.fn 200 [] []) [.ps 2 (l.map Tm.aH)] [] (λr σ'=>(r=.os 1 0 l.length 2/\σ'=[none,some (.row (l.map Tm.aH) 0)])\/(l=[]/\r=.a8/\σ'=[])):=by
 by_cases h:l=[]
 ·subst h;refine(cj.v Zwe).mono ?_;rintro r σ' (⟨rfl,rfl⟩|⟨rfl,rfl⟩)
  ·exact .inr ⟨rfl,rfl,rfl⟩
  ·exact .inl ⟨rfl,rfl⟩
 ·refine(cj.v (HU l h hl).1).mono ?_;rintro r σ' ⟨rfl,rfl⟩;exact .inl ⟨rfl,rfl⟩
theorem Ygu (σ:av) (b:Nat) (t x:Tm) (hb:bW σ b=some (.var [.int .i64 t.head,.ps 2 (t.args.map Tm.aH)])) (hs:bH σ.length σ) (ht:t.size<999999999) (hx:x.size<999999999) :
  ak Tryz.prog (.fn 240 [] [.ptr b 0]) [x.aH] σ (λr σ'=>r=.bool (decide (t=x))/\σ' = σ):=by
 have h:az Tryz.prog 240 [x.aH,.pp [.int .i64 t.head,.ps 2 (t.args.map Tm.aH)]] (.bool (decide (t=x))):=by
  refine az.begin (rs:=[.tmp 3]) (m:=5) 1000 Tryz.func240 rfl rfl rfl (by decide) trivial ?_;simp only[go_sem,dO];refine ak.bm [] (CB t x (by omega) (by omega)) (by(try simp only[cq]);exact bL _ _ _) (by simp[go_sem,cV,bC]) ?_;simp only[bj,bA,bz,if_true];refine aC.g ?_
  simp only[go_sem]
 refine ak.vM (b:=b) (cs:=[.int .i64 t.head,.ps 2 (t.args.map Tm.aH)]) [] hb h ?_ ⟨cV x,⟨trivial,bC _,trivial⟩,trivial⟩ rfl ⟨rfl,rfl⟩;have h1:v7 b [.int .i64 t.head,.ps 2 (t.args.map Tm.aH)] x.aH=x.aH:=by rw[cq];rfl
 have h2:v7 b [.int .i64 t.head,.ps 2 (t.args.map Tm.aH)] (.ptr b 0)=.pp [.int .i64 t.head,.ps 2 (t.args.map Tm.aH)]:=by simp[v7,Ar]
 simp only[aY,bq,aI,aR,h1,h2];exact bL _ _ _
theorem Zx (a b:List Tm) (ha:a.length<1000000) (hb:b.length<1000000) (A8:∀t∈a,t.size<99999999) (wg:∀t∈b,t.size<99999999):az Tryz.prog 230 [.ps 2 (a.map Tm.aH),.ps 2 (b.map Tm.aH)] (.ps 2 ((eV a b).map Tm.aH)):=by
 refine az.begin (rs:=[.tmp 4]) (m:=32) 1000 Tryz.func230 rfl rfl rfl (by decide) (bC _) ?_;simp only[go_sem];refine(Zwq b (by omega)).mono ?_;rintro r σ' (⟨rfl,rfl⟩|⟨rfl,rfl,rfl⟩)
 ·refine aC.g ?_;simp only[go_sem,ao];refine aC.ep (ι:={q:Nat×List Tm×List Tm // q.1<=a.length/\q.2.1++eV (a.drop q.1) q.2.2=eV a b/\q.2.1.length<=q.1/\q.2.2.length<=b.length/\∀x∈q.2.2,x.size<99999999}) 1000
   (λq=>dV 34 [(4,.a8),(5,.os 1 0 q.1.2.2.length 2),(6,eR 2 2 (q.1.2.1.map Tm.aH)),(12,.ps 2 (a.map Tm.aH)),(13,.int .i64 a.length),(14,.int .i64 q.1.1)])
   (λq=>[none,some (.row (q.1.2.2.map Tm.aH) 0),cX (q.1.2.1.map Tm.aH)]) (λq=>a.length-q.1.1) ⟨(0,[],b),by simpa using wg⟩ [] ?_ (λ_=>aj _) ?_
  ·refine eL rfl ?_;simp only[go_sem,bC,bT (bC _),aR,pU,pC]
  ·rintro ⟨⟨i,L,c⟩,hi,aD,C1,gM,vG⟩;simp only at hi aD C1 gM vG;by_cases bx:(i:Int)<a.length
   ·have aL:i<a.length:=by omega
    have hw:=W1' i (by omega)
    have uE:(a.map Tm.aH).getD i .undef=a[i].aH:=jT aL;have uv:=A8 _ (ay aL);rw[ai aL,eV]at aD;generalize a[i]=t at *
    simp only[go_sem,bx,ao,uE,dO];refine⟨by omega,?_⟩;refine(Zwn _ (.fn 240 [] [.ptr 3 0]) (λx=>decide (t=x)) c rfl (by omega) ?_ ?_ (λj hj=>Ygu _ 3 t c[j] rfl ?_ (by omega) (by have:=vG _ (ay hj);omega))).mono ?_
    ·simp only[go_sem,bC]
    ·simp only[go_sem]
    ·simp only[go_sem,bC]
    rintro r σ' ⟨rfl,rfl⟩;rcases KR (λx=>decide (t=x)) c 0 (by omega) with⟨q1,_⟩|⟨k,q1,q2,_⟩
    ·rw[q1]at aD ⊢;rw[if_pos (by omega)]at aD;refine aC.g ?_;simp only[go_sem,Int.reduceNeg,Int.reduceLT];have h2:bW [none,some (bS.row (c.map Tm.aH) 0),cX (L.map Tm.aH),some (bS.var [.int .i64 t.head,.ps 2 (t.args.map Tm.aH)]),some (bS.row [.agg [.int .i64 t.head,.ps 2 (t.args.map Tm.aH)]] 0)] 2=cX (L.map Tm.aH):=rfl;have nz:=of_eq_true (BO [t]);rw[show[t].map Tm.aH=[t.aH] from rfl,cq t]at nz
     simp only[go_sem,qg h2,nz,ao,hw];refine⟨by omega,⟨(i+1,L++[t],c),by simp only;omega,by rw[<-aD];simp,by simp only[aA,aq,aF];omega,gM,vG⟩,[(2,5),(5,2)],eL rfl ?_,by simp only;omega⟩;have lw:bG 0 ((L++[t]).map Tm.aH):=bC _;dsimp only
     rw[cf]at lw ⊢;rw[qP (by simp),qQ (by simp)];simp only[aI,aR,cq t]at lw;simp only[go_sem,bC,bT (bC _),bT lw,iD (aj 3) lw,ao,aq,aF,aI,aR,cq t]
    ·have wR:(0:Int)+k=k:=by omega
     rw[q2,wR]at aD ⊢;rw[if_neg (by omega),bh]at aD;have JI:¬(k:Int)<0:=by omega
     have yC:=W1' k (by omega)
     refine aC.g ?_;simp only[go_sem,JI,yC];refine ak.CQ (f:=.fn 241 [] []) (args:=[.os 0 0 c.length 2,.int .i64 k,.int .i64 ((k+1:Nat):Int)]) (B:=.row (c.map Tm.aH) 0) 1 rfl (bC _) ⟨trivial,trivial⟩ ⟨bF,trivial,trivial,trivial⟩ ((Ybq c k q1 (by omega)).mono ?_);rintro r σ' ⟨rfl,rfl⟩;refine⟨bF,_,rfl,bC _,?_⟩;have xG:(rk c k).length=c.length-1:=by simp only[rk,aA,bN,cr];omega
     rw[show c.take k++c.drop (k+1)=rk c k from rfl,<-xG]
     simp only[go_sem,cu,cw];refine aC.g ?_;simp only[go_sem,hw];refine⟨⟨(i+1,L,rk c k),by simp only;omega,aD,by simp only;omega,by simp only;omega,λx hx=>?_⟩,[],eL rfl ?_,by simp only;omega⟩
     ·rcases a_.1 hx with hx|hx
      ·exact vG x (np hx)
      ·exact vG x (List.mem_of_mem_drop hx)
     simp only[go_sem,bC,bT (bC _),K4 (bC L)]
   ·have dm:i=a.length:=by omega
    subst dm;rw[aJ,eV,bf]at aD;simp only[go_sem,bx];refine aC.g ?_;simp only[go_sem];rw[<-aD,nI rfl rfl];trivial
 ·refine aC.g ?_;simp only[go_sem,ao];refine aC.ep (ι:={q:Nat×List Tm // q.1<=a.length/\q.2++eV (a.drop q.1) []=eV a []/\q.2.length<=q.1}) 1000
   (λq=>dV 34 [(4,.a8),(5,.a8),(6,eR 0 2 (q.1.2.map Tm.aH)),(12,.ps 2 (a.map Tm.aH)),(13,.int .i64 a.length),(14,.int .i64 q.1.1)])
   (λq=>[cX (q.1.2.map Tm.aH)]) (λq=>a.length-q.1.1) ⟨(0,[]),by simp⟩ [] ?_ (λ_=>aj _) ?_
  ·refine eL rfl ?_;simp only[go_sem,bC,bT (bC _),aR,pU,pC]
  ·rintro⟨⟨i,L⟩,hi,aD,C1⟩;simp only at hi aD C1;by_cases bx:(i:Int)<a.length
   ·have aL:i<a.length:=by omega
    have hw:=W1' i (by omega)
    have uE:(a.map Tm.aH).getD i .undef=a[i].aH:=jT aL;have uv:=A8 _ (ay aL);rw[ai aL,eV,if_pos (by simp[eF])]at aD;generalize a[i]=t at *
    simp only[go_sem,bx,ao,uE,dO];refine⟨by omega,?_⟩;refine ak.Qp (args':=[.ps 2 (([]:List Tm).map Tm.aH),.fn 240 [] [.ptr 1 0]]) ?_ ?_
    ·simp only[go_sem,aR]
    refine(WM _ (.fn 240 [] [.ptr 1 0]) (λx=>decide (t=x)) [] (by simp) ?_ ?_ (λj hj=>by simp at hj)).mono ?_
    ·simp only[go_sem,bC]
    ·simp only[go_sem]
    rintro r σ' ⟨rfl,rfl⟩;rw[show eF (λx=>decide (t=x)) [] 0 = -1 from rfl]
    refine aC.g ?_;simp only[go_sem,Int.reduceNeg,Int.reduceLT];have h2:bW [cX (L.map Tm.aH),some (bS.var [.int .i64 t.head,.ps 2 (t.args.map Tm.aH)]),some (bS.row [.agg [.int .i64 t.head,.ps 2 (t.args.map Tm.aH)]] 0)] 0=cX (L.map Tm.aH):=rfl;have nz:=of_eq_true (BO [t]);rw[show[t].map Tm.aH=[t.aH] from rfl,cq t]at nz
    simp only[go_sem,qg h2,nz,ao,hw];refine⟨by omega,⟨(i+1,L++[t]),by simp only;omega,by rw[<-aD];simp,by simp only[aA,aq,aF];omega⟩,[(0,3),(3,0)],eL rfl ?_,by simp only;omega⟩;have lw:bG 0 ((L++[t]).map Tm.aH):=bC _;dsimp only
    rw[cf]at lw ⊢;rw[qP (by simp),qQ (by simp)];simp only[aI,aR,cq t]at lw;simp only[go_sem,bC,bT (bC _),bT lw,iD (aj 1) lw,ao,aq,aF,aI,aR,cq t]
   ·have dm:i=a.length:=by omega
    subst dm;rw[aJ,eV,bf]at aD;simp only[go_sem,bx];refine aC.g ?_;simp only[go_sem];rw[<-aD,nI rfl rfl];trivial
def wE (g:List Sy)(a:List Tm)(y:Tm):Bool:=a.any λx=>decide (eT g x y=1)
def oh (g:List Sy)(a b:List Tm):Bool:=decide (0<a.length) && !(b.any λy=>!wE g a y)
def vS (t:Tm):Option bS:=some (.var [.int .i64 t.head,.ps 2 (t.args.map Tm.aH)])
def qI (g:List Sy)(a:List Tm):av:=[some (.var [.ps 4 (syms g)]),some (.var [.ps 2 (a.map Tm.aH)]),some (.var [.fn 242 [] [.ptr 1 0,.ptr 0 0]])]
theorem Yfd (g:List Sy) (hg:uD g) (mA:g.length<1000000) (a:List Tm) (x y:Tm) (hx:kj g x) (hy:kj g y) :
  ak Tryz.prog (.fn 243 [] [.ptr 0 0,.ptr 4 0]) [x.aH] (qI g a++[vS y,vS y]) (λr σ'=>r=.bool (decide (eT g x y=1))/\σ'=qI g a++[vS y,vS y]):=by
 unfold qI vS;refine ak.begin (rs:=[.tmp 4]) (m:=7) 1000 Tryz.func243 rfl rfl rfl rfl rfl ?_;have hs:=O_ g hg mA x.size x y (ae _) hx hy;simp only[go_sem,dO,bq,aY];refine ak.bm [] hs (by simp only[cq,bq,aY,bf];exact bL _ _ _) (by simp[go_sem,cV,cS]) ?_;simp only[bj,bA,bz,if_true];refine aC.g ?_;simp only[go_sem];rw[gy];exact⟨qI g a++[vS y,vS y],by simp[qI,vS,go_sem],by simp[qI],by simp[qI,vS,go_sem,cS,bC],trivial,rfl,rfl⟩
theorem LR (g:List Sy) (a:List Tm) (l:List Tm) {n:Nat} (hn:n=3+l.length):bH n (qI g a++l.map vS):=by
 subst hn;refine qO ?_ ?_
 ·refine ph (bV 3 _) ?_;simp[qI,go_sem,cS,bC]
 ·induction l with
  |nil=>trivial
  |cons x l ih=>exact⟨⟨trivial,bC _,trivial⟩,ph (by simp) ih⟩
theorem Yno (g:List Sy) (hg:uD g) (mA:g.length<1000000) (a:List Tm) (y:Tm) (ha:∀x∈a,kj g x) (nw:a.length<1000000) (hy:kj g y) :
  ak Tryz.prog (.fn 242 [] [.ptr 1 0,.ptr 0 0]) [y.aH] (qI g a++[vS y]) (λr σ'=>r=.bool (wE g a y)/\σ'=qI g a++[vS y]):=by
 refine ak.begin (rs:=[.tmp 4]) (m:=5) 1000 Tryz.func242 rfl rfl rfl rfl rfl ?_;have hc:=Nk (qI g a++[vS y,vS y]) (.fn 243 [] [.ptr 0 0,.ptr 4 0]) (λx=>decide (eT g x y=1)) a (by omega) (LR g a [y,y] rfl) (by simp[qI,go_sem]) (λi h=>Yfd g hg mA a a[i] y (ha _ (ay h)) hy);unfold qI vS at hc ⊢;simp only[go_sem,dO,bq,aY];refine hc.mono ?_;rintro r σ' ⟨rfl,rfl⟩;refine aC.g ?_;simp only[go_sem,bq,aY];rw[gy];exact⟨qI g a++[vS y],by simp[qI,vS,go_sem],by simp[qI],LR g a [y] rfl,trivial,rfl,rfl⟩
theorem Yps (g:List Sy) (hg:uD g) (mA:g.length<1000000) (a:List Tm) (y:Tm) (ha:∀x∈a,kj g x) (nw:a.length<1000000) (hy:kj g y) :
  ak Tryz.prog (.fn 244 [] [.ptr 2 0]) [y.aH] (qI g a) (λr σ'=>r=.bool (!wE g a y)/\σ'=qI g a):=by
 refine ak.begin (rs:=[.tmp 3]) (m:=6) 1000 Tryz.func244 rfl rfl rfl rfl rfl ?_;have hc:=Yno g hg mA a y ha nw hy;rw[cq y]at hc;unfold qI vS at hc;unfold qI;simp only[go_sem,dO,bq,aY];refine hc.mono ?_;rintro r σ' ⟨rfl,rfl⟩;refine aC.g ?_;simp only[go_sem,bq,aY];rw[gy];exact⟨qI g a,by simp[qI,vS,go_sem],by simp[qI],(show bH 3 (qI g a) by simpa using LR g a [] rfl),trivial,rfl,rfl⟩
theorem Zj (g:List Sy) (hg:uD g) (mA:g.length<1000000) (a b:List Tm) (ha:∀x∈a,kj g x) (hb:∀x∈b,kj g x) (nw:a.length<1000000) (qS:b.length<1000000) :
  az Tryz.prog 231 [.ps 4 (syms g),.ps 2 (a.map Tm.aH),.ps 2 (b.map Tm.aH)] (.bool (oh g a b)):=by
 refine az.begin (rs:=[.tmp 6]) (m:=15) 1000 Tryz.func231 rfl rfl rfl (by decide) trivial ?_;have hc:=Nk (qI g a) (.fn 244 [] [.ptr 2 0]) (λy=>!wE g a y) b (by omega) (show bH 3 (qI g a) by simpa using LR g a [] rfl) (by simp[qI,go_sem]) (λi h=>Yps g hg mA a b[i] ha nw (hb _ (ay h)));unfold qI at hc;by_cases h:(0:Int)<a.length
 ·have h' : 0<a.length:=by omega
  simp only[go_sem,ao,h];refine hc.mono ?_;rintro r σ' ⟨rfl,rfl⟩;refine aC.g ?_;simp only[go_sem,oh,h',decide_true,bO]
 ·have h':¬0<a.length:=by omega
  simp only[go_sem,ao,h,oh,h',decide_false,bU]
theorem Yka (n:Nat) (hn:n<10000000):ak Tryz.prog (.fn 239 [] []) [.a8,.int .i64 n] [] (λr σ'=>(n=0/\r=.a8/\σ'=[])\/∃J,bG 0 J/\r=.os 0 0 0 2/\σ'=[some (.row J 0)]):=by
 refine ak.begin (rs:=[.tmp 4]) (m:=25) 1000 Tryz.func239 rfl rfl rfl rfl rfl ?_;have h1:¬(n:Int)<0:=by omega
 have hw:IntKind.i64.wrap (n:Int)=n:=dt (by omega);have Cc:IntKind.i64.wrap 0=0:=dt (by omega);by_cases h:(0:Int)<n
 ·have h2:¬n=0:=by omega
  have h3:n<=6000000000000:=by omega
  have hz:eE ⟨2,true,32,[.int .i64 0,.a8],.struct⟩ (List.replicate n (.agg [.int .i64 0,.a8])):=⟨λx hx=>by rw[(List.mem_replicate.1 hx).2];exact⟨rfl,rfl⟩,by decide,by decide,rfl⟩;simp only[go_sem,h1,hw,Cc,h,hz,bJ,h2,h3];have hJ:∀k m,bG k (List.replicate m (ah.agg [.int .i64 0,.a8])):=λk m=>by
   induction m with
   |zero=>trivial
   |succ m ih=>rw[eS];exact⟨⟨trivial,trivial,trivial⟩,ih⟩
  refine⟨⟨by omega,by omega⟩,by omega,?_⟩;rw[gy];exact⟨_,gL _,aj _,⟨hJ _ _,trivial⟩,bF,_,hJ _ _,rfl,rfl⟩
 ·simp only[go_sem,h1,hw,Cc,h];rw[gy];exact⟨[],trivial,ae _,trivial,trivial,.inl ⟨by omega,rfl,rfl⟩⟩
def IK (a b:List Tm):Nat->Nat
 |0=>0
 |1=>a.length
 |_=>a.length+b.length
def Fa (a b:List Tm)(J:List ah):Nat->List ah
 |0=>J
 |1=>a.map Tm.aH
 |_=>(a++b).map Tm.aH
theorem Zxu (a b:List Tm) (ha:a.length<1000000) (hb:b.length<1000000):az Tryz.prog 229 [.ps 1 [.ps 2 (a.map Tm.aH),.ps 2 (b.map Tm.aH)]] (.ps 2 ((a++b).map Tm.aH)):=by
 refine az.begin (rs:=[.tmp 2]) (m:=35) 1000 Tryz.func229 rfl rfl rfl (by decide) (bC _) ?_;have c0:IK a b 0=0:=rfl;have c1:IK a b 1=a.length:=rfl;have c2:IK a b 2=a.length+b.length:=rfl;have lS:((2:Nat):Int)=2:=rfl;have sW:IntKind.i64.wrap ((1:Int)+1)=((2:Nat):Int):=dt (by omega);simp only[go_sem,aq,aF];refine aC.cA (ι:={i:Nat // i<=2}) 1000 (λq=>dV 36 [(0,.ps 1 [.ps 2 (a.map Tm.aH),.ps 2 (b.map Tm.aH)]),(2,.a8),(3,.int .i64 (IK a b q.1)),(9,.ps 1 [.ps 2 (a.map Tm.aH),.ps 2 (b.map Tm.aH)]),(10,.int .i64 ((2:Nat):Int)),(11,.int .i64 q.1)])
  (λ_=>[]) (λq=>2-q.1) ⟨0,by omega⟩ ?_ (λ_=>aj _) ?_
 ·simp only[go_sem,c0,lS,bC]
 ·rintro ⟨i,hi⟩;obtain rfl|rfl|rfl:i=0\/i=1\/i=2:=by omega
  ·have hw:IntKind.i64.wrap (a.length:Int)=a.length:=dt (by omega);have hn:¬(a.length:Int)<0:=by omega
   simp only[go_sem,c0,lS,ao,hw,hn,aV];exact⟨⟨1,by omega⟩,⟨⟨rfl,rfl⟩,bC _,bC _⟩,by simp only;omega⟩
  ·have hw:IntKind.i64.wrap ((a.length:Int)+b.length)=((a.length+b.length:Nat):Int):=by rw[dt (by omega)];omega
   have hn:¬((a.length+b.length:Nat):Int)<0:=by omega
   simp only[go_sem,c1,lS,ao,hw,hn,aV,bE];exact⟨⟨2,by omega⟩,⟨⟨rfl,by rw[sW]⟩,bC _,bC _⟩,by simp only;omega⟩
  ·simp only[go_sem,c2,lS,kY];refine aC.g ?_;simp only[go_sem];refine(Yka (a.length+b.length) (by omega)).mono ?_;rintro r σ' (⟨hz,rfl,rfl⟩|⟨J,hJ,rfl,rfl⟩)
   ·have QP:a=[]:=bn (by omega);have ur:b=[]:=bn (by omega);subst QP;subst ur;refine aC.g ?_;simp only[go_sem,aR,aq,aF];refine aC.cA (ι:={i:Nat // i<=2}) 1000 (λq=>dV 36 [(2,.a8),(6,.a8),(25,.ps 1 [.ps 2 [],.ps 2 []]),(26,.int .i64 ((2:Nat):Int)),(27,.int .i64 q.1)])
     (λ_=>[]) (λq=>2-q.1) ⟨0,by omega⟩ ?_ (λ_=>aj _) ?_
    ·simp only[go_sem,lS]
    ·rintro⟨i,hi⟩;obtain rfl|rfl|rfl:i=0\/i=1\/i=2:=by omega
     ·simp only[go_sem,lS,aV,aF];exact⟨of_eq_true (BO []),⟨1,by omega⟩,rfl,by simp only;omega⟩
     ·simp only[go_sem,lS,aV,bE,aF];exact⟨of_eq_true (BO []),⟨2,by omega⟩,by rw[sW],by simp only;omega⟩
     ·simp only[go_sem,lS,kY];refine aC.g ?_;simp only[go_sem,bf,aR]
   ·refine aC.g ?_;simp only[go_sem,aq,aF];refine aC.ep (ι:={i:Nat // i<=2}) 1000 (λq=>dV 36 [(2,.a8),(6,.os 0 0 (IK a b q.1) 2),(25,.ps 1 [.ps 2 (a.map Tm.aH),.ps 2 (b.map Tm.aH)]),(26,.int .i64 ((2:Nat):Int)),(27,.int .i64 q.1)])
     (λq=>[some (.row (Fa a b J q.1) 0)]) (λq=>2-q.1) ⟨0,by omega⟩ [] ?_ (λ_=>aj _) ?_
    ·refine eL rfl ?_;simp only[go_sem,lS,c0,show Fa a b J 0=J from rfl,bC,bT (bC _),bT hJ,iD (aj 1) hJ]
    ·rintro⟨i,hi⟩;obtain rfl|rfl|rfl:i=0\/i=1\/i=2:=by omega
     ·simp only[go_sem,lS,c0,show Fa a b J 0=J from rfl,aV,ao]
      refine⟨⟨by omega,by omega⟩,⟨1,by omega⟩,[(0,1),(1,0)],eL rfl ?_,by simp only;omega⟩;simp only[go_sem,lS,c1,show Fa a b J 1=a.map Tm.aH from rfl,bC,bT (bC _)]
     ·simp only[go_sem,lS,c1,show Fa a b J 1=a.map Tm.aH from rfl,aV,bE,ao]
      refine⟨⟨by omega,by omega⟩,⟨2,by omega⟩,[(0,1),(1,0)],eL rfl ?_,by simp only;omega⟩;simp only[go_sem,lS,sW,c2,show Fa a b J 2=(a++b).map Tm.aH from rfl,bC,bT (bC _),cf]
      have lw:bG 0 (a.map Tm.aH++b.map Tm.aH):=uQ (bC a) (bC b);rw[aO (by simp),bT lw];exact⟨rfl,iD (aj 1) lw⟩
     ·simp only[go_sem,lS,c2,show Fa a b J 2=(a++b).map Tm.aH from rfl,kY]
      refine aC.g ?_;simp only[go_sem,ao,aA];rw[aO (by simp)];exact bL _ _ _
theorem La:∀(a b:List Tm) (t:Tm),t∈eV a b->t∈a
 |[],_,t,h=>by rw[eV]at h;cases h
 | x :: a,b,t,h=>by
  rw[eV]at h;split at h
  ·rcases aU.1 h with rfl|h
   ·simp
   ·exact ct _ (La a b t h)
  ·exact ct _ (La a _ t h)
theorem Lb:∀(a b:List Tm),(eV a b).length<=a.length
 |[],_=>by rw[eV];exact ae _
 |x :: a,b=>by
  rw[eV];split
  ·have:=Lb a b;simp only[aq];omega
  ·have:=Lb a (rk b (eF (λy=>decide (x=y)) b 0).toNat);simp only[aq];omega
def rH (g:List Sy)(a b:List Tm):Int :=
 if (eV a b).length+(eV b a).length=0 then 0 else if oh g (eV a b) (eV b a)=true then 1 else if oh g (eV b a) (eV a b)=true then -1 else 2
theorem Yoh (g:List Sy) (hg:uD g) (mA:g.length<1000000) (a b:List Tm) (ha:a.length<500000) (hb:b.length<500000) (hs:∀t∈a++b,t.size<99999999) (jB:fv g (a++b)=0->∀t∈a++b,kj g t) :
  az Tryz.prog 215 [.ps 4 (syms g),.ps 2 (a.map Tm.aH),.ps 2 (b.map Tm.aH)] (.dw [.int .i64 (if fv g (a++b)=0 then rH g a b else 0),.int .i64 (fv g (a++b))]):=by
 refine az.begin (rs:=[.tmp 6,.tmp 7]) (m:=40) 1000 Tryz.func215 rfl rfl rfl (by decide) ⟨trivial,trivial,trivial⟩ ?_;have hw:=Xa g (a++b) (by simp;omega) hs;have A8:∀t∈a,t.size<99999999:=λt ht=>hs t (by simp[ht]);have wg:∀t∈b,t.size<99999999:=λt ht=>hs t (by simp[ht]);simp only[go_sem];refine ak.bm [0] (Zxu a b (by omega) (by omega)) ?_ ⟨⟨bC a,bC b,trivial⟩,trivial⟩ ?_
 ·simp only[go_sem]
 generalize bj _=fl;have De:∀σ:av,ak Tryz.prog (.fn 194 [] []) [.ps 4 (syms g),.ps 2 ((a++b).map Tm.aH)] σ (λr σ'=>r=.int .i64 (fv g (a++b))/\σ' = σ):=λσ=>by
  refine ak.bm [] hw (bL _ _ _) ⟨cS _,bC (a++b),trivial⟩ ?_;simp only[bj,bA,bz,if_true];exact⟨trivial,trivial⟩
 obtain⟨fz,Hl⟩:∃fz,(if fl=true then [some (bS.row [.ps 2 (a.map Tm.aH),.ps 2 (b.map Tm.aH)] 0)] else fw (among [0]) 0 [some (bS.row [.ps 2 (a.map Tm.aH),.ps 2 (b.map Tm.aH)] 0)])=[some (bS.row [.ps 2 (a.map Tm.aH),.ps 2 (b.map Tm.aH)] fz)]:=by
  cases fl
  ·exact⟨_,rfl⟩
  ·exact⟨_,rfl⟩
 rw[Hl];refine aC.g ?_;simp only[go_sem];refine(De _).mono ?_;rintro r σ' ⟨rfl,rfl⟩;by_cases h:fv g (a++b)=0
 ·have hk:=jB h;have Jr:∀t∈a,kj g t:=λt ht=>hk t (by simp[ht]);have Js:∀t∈b,kj g t:=λt ht=>hk t (by simp[ht]);have l1:=Lb a b;have l2:=Lb b a;have m1:∀t∈eV a b,kj g t:=λt ht=>Jr t (La _ _ t ht);have m2:∀t∈eV b a,kj g t:=λt ht=>Js t (La _ _ t ht);have o1:=Zj g hg mA (eV a b) (eV b a) m1 m2 (by omega) (by omega);have o2:=Zj g hg mA (eV b a) (eV a b) m2 m1 (by omega) (by omega);refine aC.g ?_;rw[if_pos h];simp only[go_sem,h];refine ak.bm [] (Zx a b (by omega) (by omega) A8 wg) (bL _ _ _) ⟨bC a,bC b,trivial⟩ ?_;rw[eW];simp only[ite_self];refine aC.g ?_;simp only[go_sem];refine ak.bm [] (Zx b a (by omega) (by omega) wg A8) (bL _ _ _) ⟨bC b,bC a,trivial⟩ ?_;rw[eW];simp only[ite_self];have JG:rH g a b=if (eV a b).length+(eV b a).length=0 then 0 else if oh g (eV a b) (eV b a)=true then 1 else if oh g (eV b a) (eV a b)=true then -1 else 2:=rfl
  rw[JG];generalize eV a b=x at *
  generalize eV b a=y at *
  have sW:IntKind.i64.wrap ((x.length:Int)+y.length)=((x.length+y.length:Nat):Int):=by rw[dt (by omega)];omega
  refine aC.g ?_;by_cases h1:x.length+y.length=0
  ·rw[if_pos h1];have h2:((x.length+y.length:Nat):Int)=0:=by omega
   simp only[go_sem,ao,sW,h2]
  ·rw [if_neg h1];have h2:¬((x.length+y.length:Nat):Int)=0:=by omega
   simp only[go_sem,ao,sW,h2];refine ak.bm [] o1 (bL _ _ _) ⟨cS _,bC x,bC y,trivial⟩ ?_;simp only[bj,bA,bz,if_true];refine aC.g ?_;cases h3:oh g x y
   ·simp only[go_sem,h3];refine ak.bm [] o2 (bL _ _ _) ⟨cS _,bC y,bC x,trivial⟩ ?_;simp only[bj,bA,bz,if_true];refine aC.g ?_;cases h4:oh g y x
    ·simp only[go_sem,h4]
    ·simp only[go_sem,h4]
   ·simp only[go_sem,h3]
 ·refine aC.g ?_;rw[if_neg h];simp only[go_sem,h]
def Bk (g:List Sy)(l:Li):Prop:=kj g l.l/\kj g l.r
def ua (l:Li):Prop:=l.l.size<99999999/\l.r.size<99999999
theorem Ps {l:Li}{t:Tm}(h:t∈kO l):t=l.l\/t=l.r:=by
 unfold kO at h;split at h<;>simp at h<;>rcases h with rfl|rfl<;>simp
theorem Ll (l:Li):(kO l).length<=4:=by
 unfold kO;split<;>simp
theorem DK {g:List Sy} {l:Li} (h:l.check g=0):l.l.term g=0/\l.r.term g=0:=by
 unfold Li.check at h;by_cases h1:l.l.term g=0
 ·rw[if_neg (by simp[h1])]at h;by_cases h2:l.r.term g=0
  ·exact⟨h1,h2⟩
  ·rw[if_pos h2]at h;exact absurd h h2
 ·rw[if_pos h1]at h;exact absurd h h1
theorem VO {g:List Sy}:∀ {ts:List Tm},(∀t∈ts,t.term g=0)->fv g ts=0
 |[],_=>rfl
 |t :: ts,h=>by rw[fv,if_pos (h t (by simp))];exact VO λx hx=>h x (by simp[hx])
def sB (g:List Sy)(a b:Li):Int×Int:=if a.check g≠0 then (0,a.check g) else if b.check g≠0 then (0,b.check g) else (rH g (kO a) (kO b),0)
theorem Zxg (g:List Sy) (hg:uD g) (mA:g.length<1000000) (a b:Li) (sa:ua a) (sb:ua b) (oa:a.check g=0->Bk g a) (ob:b.check g=0->Bk g b) :
  az Tryz.prog 198 [.ps 4 (syms g),a.aH,b.aH] (.dw [.int .i64 (sB g a b).1,.int .i64 (sB g a b).2]):=by
 refine az.begin (rs:=[.tmp 6,.tmp 7]) (m:=27) 1000 Tryz.func198 rfl rfl rfl (by decide) ⟨trivial,trivial,trivial⟩ ?_;have c1:=OU g a (by have:=sa.1;omega) (by have:=sa.2;omega);have c2:=OU g b (by have:=sb.1;omega) (by have:=sb.2;omega);simp only[go_sem,gf];refine ak.bm [] c1 (bL _ _ _) ⟨cS _,jU _,trivial⟩ ?_;simp only[bj,bA,bz,if_true];refine aC.g ?_;by_cases h1:a.check g=0
 ·simp only[go_sem,h1];refine ak.bm [] c2 (bL _ _ _) ⟨cS _,jU _,trivial⟩ ?_;simp only[bj,bA,bz,if_true];refine aC.g ?_;by_cases h2:b.check g=0
  ·have hr:sB g a b=(rH g (kO a) (kO b),0):=by unfold sB;rw[if_neg (by simp[h1]),if_neg (by simp[h2])]
   have qi:=Ll a;have AW:=Ll b;have j0:∀t∈kO a++kO b,t.size<99999999/\kj g t/\t.term g=0:=λt ht=>by
    rcases a_.1 ht with ht|ht
    ·rcases Ps ht with rfl|rfl
     ·exact⟨sa.1,(oa h1).1,(DK h1).1⟩
     ·exact⟨sa.2,(oa h1).2,(DK h1).2⟩
    ·rcases Ps ht with rfl|rfl
     ·exact⟨sb.1,(ob h2).1,(DK h2).1⟩
     ·exact⟨sb.2,(ob h2).2,(DK h2).2⟩
   have hm:=Yoh g hg mA (kO a) (kO b) (by omega) (by omega) (λt ht=>(j0 t ht).1) (λ_ t ht=>(j0 t ht).2.1);rw[VO (λt ht=>(j0 t ht).2.2),if_pos rfl]at hm;rw[hr];simp only[go_sem,h2];refine aC.draw [] 2 2 mixed rfl rfl (by decide) ?_;simp only[go_sem,cM];refine jS (Uk a) (bL _ _ _) ⟨jU _,trivial⟩ ?_;simp only[go_sem];refine jS (Uk b) (bL _ _ _) ⟨jU _,trivial⟩ ?_;simp only[go_sem];refine jS hm (bL _ _ _) ⟨cS _,bC _,bC _,trivial⟩ ?_;simp only[go_sem];refine aC.g ?_;simp only[go_sem]
  ·have hr:sB g a b=(0,b.check g):=by unfold sB;rw[if_neg (by simp[h1]),if_pos h2]
   rw[hr];simp only[go_sem,h2]
 ·have hr:sB g a b=(0,a.check g):=by unfold sB;rw[if_pos h1]
  rw[hr];simp only[go_sem,h1]
def dv (a b:Li):Bool:=decide (a.neg=b.neg)&&mh a b
def uT (l:List Li)(i:Nat):List Li:=l.take i++l.drop (i+1)
def fC:List Li->List Li->List Li
 |[],_=>[]
 |t :: a,b=>if eF (λx=>dv t x) b 0<0 then t :: fC a b else fC a (uT b (eF (λx=>dv t x) b 0).toNat)
def w7 (t:Li):Option bS:=some (.var [.bool t.neg,.int .i64 t.l.head,.ps 2 (t.l.args.map Tm.aH),.int .i64 t.r.head,.ps 2 (t.r.args.map Tm.aH)])
def y5:Option bS:=some (.var [.fn 65 [] []])
theorem Yec (o1 o2 o3:Option bS) (t x:Li) (hs:bH 5 [y5,o1,o2,o3,w7 t]) (ht:ua t) (hx:ua x) :
  ak Tryz.prog (.fn 214 [] [.ptr 0 0,.ptr 4 0]) [x.aH] [y5,o1,o2,o3,w7 t] (λr σ'=>r=.bool (dv t x)/\σ'=[y5,o1,o2,o3,w7 t]):=by
 unfold y5 w7 at hs ⊢;refine ak.begin (rs:=[.tmp 4]) (m:=6) 1000 Tryz.func214 rfl rfl rfl rfl rfl ?_;have h:=SH t x ⟨by have:=ht.1;omega,by have:=ht.2;omega⟩ ⟨by have:=hx.1;omega,by have:=hx.2;omega⟩;simp only[go_sem,gf];refine ak.bm [] h (bL _ _ _) ⟨jU _,jU _,trivial⟩ ?_;simp only[bj,bA,bz,if_true];refine aC.g ?_;simp only[go_sem];rw[gy];exact⟨[y5,o1,o2,o3,w7 t],by simp[y5,w7,go_sem,W1],by simp,hs,trivial,rfl,rfl⟩
theorem Zh (a b:List Li) (ur:b≠[]) (ha:a.length<1000000) (hb:b.length<1000000) (A8:∀t∈a,ua t) (wg:∀t∈b,ua t):az Tryz.prog 196 [.ps 5 (lits a),.ps 5 (lits b),.fn 65 [] []] (.ps 5 (lits (fC a b))):=by
 refine az.begin (rs:=[.tmp 6]) (m:=33) 1000 Tryz.func196 rfl rfl rfl (by decide) (bI _) ?_;simp only[go_sem];refine ak.vN [] (KN b ur (by omega)) (bL _ _ _) ⟨bI _,trivial⟩ ?_;rw[eW];simp only[Cx,CA,CI,xv,CM,up,bT (bI _)];refine aC.g ?_;simp only[go_sem,dA];refine aC.ep (ι:={q:Nat×List Li×List Li // q.1<=a.length/\q.2.1++fC (a.drop q.1) q.2.2=fC a b/\q.2.1.length<=q.1/\q.2.2.length<=b.length/\∀x∈q.2.2,ua x}) 1000
  (λq=>dV 36 [(5,.ptr 0 0),(6,.a8),(7,.os 2 0 q.1.2.2.length 5),(8,eR 3 5 (lits q.1.2.1)),(14,.ps 5 (lits a)),(15,.int .i64 a.length),(16,.int .i64 q.1.1)])
  (λq=>[y5,none,some (.row (lits q.1.2.2) 0),cX (lits q.1.2.1)]) (λq=>a.length-q.1.1) ⟨(0,[],b),by simpa using wg⟩ [] ?_ (λ_=>aj _) ?_
 ·refine eL rfl ?_;unfold y5;simp only[go_sem,bI,bT (bI _),show lits []=[] from rfl,pU,pC]
 ·rintro ⟨⟨i,L,c⟩,hi,aD,C1,gM,vG⟩;simp only at hi aD C1 gM vG;by_cases bx:(i:Int)<a.length
  ·have aL:i<a.length:=by omega
   have hw:=W1' i (by omega)
   have uE:=qs aL;have uv:=A8 _ (ay aL);rw[ai aL,fC]at aD;generalize a[i]=t at *
   have iG:bH 5 [y5,none,some (bS.row (lits c) 0),cX (lits L),w7 t]:=⟨⟨⟨trivial,trivial⟩,trivial⟩,trivial,bI c,BQ _ (bI L),⟨trivial,trivial,bC _,trivial,bC _,trivial⟩,trivial⟩;have Jq:=VW [y5,none,some (bS.row (lits c) 0),cX (lits L),w7 t] (b:=2) (.fn 214 [] [.ptr 0 0,.ptr 4 0]) (λx=>dv t x) c rfl (by omega) iG (by simp[go_sem]) (λj hj=>Yec none _ _ t c[j] iG uv (vG _ (ay hj)));unfold y5 w7 at Jq;unfold y5;simp only[go_sem,bx,dA,uE,gf];refine⟨by omega,?_⟩;refine Jq.mono ?_;rintro r σ' ⟨rfl,rfl⟩;rcases KR (λx=>dv t x) c 0 (by omega) with⟨q1,_⟩|⟨k,q1,q2,_⟩
   ·rw[q1]at aD ⊢;rw[if_pos (by omega)]at aD;refine aC.g ?_;simp only[go_sem,Int.reduceNeg,Int.reduceLT];have h2:bW [some (bS.var [.fn 65 [] []]),none,some (bS.row (lits c) 0),cX (lits L),some (bS.var [.bool t.neg,.int .i64 t.l.head,.ps 2 (t.l.args.map Tm.aH),.int .i64 t.r.head,.ps 2 (t.r.args.map Tm.aH)]),some (bS.row [.agg [.bool t.neg,.int .i64 t.l.head,.ps 2 (t.l.args.map Tm.aH),.int .i64 t.r.head,.ps 2 (t.r.args.map Tm.aH)]] 0)] 3=cX (lits L):=rfl;have A_:lits [t]=[.agg [.bool t.neg,.int .i64 t.l.head,.ps 2 (t.l.args.map Tm.aH),.int .i64 t.r.head,.ps 2 (t.r.args.map Tm.aH)]]:=rfl;have nz:=of_eq_true (CJ [t]);rw[A_]at nz;simp only[go_sem,qg h2,nz,dA,hw];refine⟨by omega,⟨(i+1,L++[t],c),by simp only;omega,by rw[<-aD];simp,by simp only[aA,aq,aF];omega,gM,vG⟩,[(3,6),(6,3)],eL rfl ?_,by simp only;omega⟩;have lw:bG 0 (lits (L++[t])):=bI _;have qi:lits (L++[t])=lits L++[.agg [.bool t.neg,.int .i64 t.l.head,.ps 2 (t.l.args.map Tm.aH),.int .i64 t.r.head,.ps 2 (t.r.args.map Tm.aH)]]:=by rw[<-A_];simp[lits]
    dsimp only
    rw[qi]at lw ⊢;rw[GX,GO];simp only[go_sem,bI,bT (bI _),bT lw,iD (aj 4) lw,dA]
   ·have wR:(0:Int)+k=k:=by omega
    rw[q2,wR]at aD ⊢;rw[if_neg (by omega),bh]at aD;have JI:¬(k:Int)<0:=by omega
    have yC:=W1' k (by omega)
    refine aC.g ?_;simp only[go_sem,JI,yC];refine ak.CQ (f:=.fn 71 [] []) (args:=[.os 0 0 c.length 5,.int .i64 k,.int .i64 ((k+1:Nat):Int)]) (B:=.row (lits c) 0) 2 rfl (bI _) ⟨trivial,trivial⟩ ⟨bF,trivial,trivial,trivial⟩ ((NW c k q1 (by omega)).mono ?_);rintro r σ' ⟨rfl,rfl⟩;refine⟨bF,_,rfl,bI _,?_⟩;have xG:(uT c k).length=c.length-1:=by simp only[uT,aA,bN,cr];omega
    rw[show c.take k++c.drop (k+1)=uT c k from rfl,<-xG]
    simp only[go_sem,cu,cw];refine aC.g ?_;simp only[go_sem,hw];refine⟨⟨(i+1,L,uT c k),by simp only;omega,aD,by simp only;omega,by simp only;omega,λx hx=>?_⟩,[],eL rfl ?_,by simp only;omega⟩
    ·rcases a_.1 hx with hx|hx
     ·exact vG x (np hx)
     ·exact vG x (List.mem_of_mem_drop hx)
    simp only[go_sem,bI,bT (bI _),K4 (bI L)]
  ·have dm:i=a.length:=by omega
   subst dm;rw[aJ,fC,bf]at aD;unfold y5;simp only[go_sem,bx];refine aC.g ?_;simp only[go_sem];rw[<-aD,nI rfl rfl];trivial
def BW (g:List Sy)(a b:Li):Bool:=decide ((sB g a b).2=0)&&decide ((sB g a b).1=1)
def xB (g:List Sy):ah:=.fn 197 [] [.pp [.ps 4 (syms g)]]
@[go_sem]theorem Ik {n:Nat}(g:List Sy):ah.low n (xB g)=True:=eq_true ⟨trivial,⟨⟨cS _,trivial⟩,trivial⟩⟩
@[go_sem]theorem Xbw {π:Nat->Nat}(g:List Sy):ez π (xB g)=xB g:=zJ (of_eq_true (Ik g))
def rF (g:List Sy)(l:Li):Prop:=ua l/\(l.check g=0->Bk g l)
theorem Zvs (g:List Sy) (hg:uD g) (mA:g.length<1000000) (a b:Li) (ha:rF g a) (hb:rF g b) :
  az Tryz.prog 197 [a.aH,b.aH,.pp [.ps 4 (syms g)]] (.bool (BW g a b)):=by
 refine az.begin (rs:=[.tmp 5]) (m:=18) 1000 Tryz.func197 rfl rfl rfl (by decide) trivial ?_;have h:=Zxg g hg mA a b ha.1 hb.1 ha.2 hb.2;unfold BW;generalize sB g a b=z at *
 simp only[go_sem,gf];refine ak.bm [] h (bL _ _ _) ⟨cS _,jU _,jU _,trivial⟩ ?_;rw[eW];simp only[ite_self];refine aC.g ?_;by_cases h1:z.2=0
 ·simp only[go_sem,h1,decide_true,bO]
 ·simp only[go_sem,h1,decide_false,bU]
theorem Yk8 (g:List Sy) (hg:uD g) (mA:g.length<1000000) (x y:Li) (hx:rF g x) (hy:rF g y) :
  ak Tryz.prog (.fn 217 [] [.ptr 0 0,.ptr 1 0]) [x.aH] [some (.var [xB g]),w7 y] (λr σ'=>r=.bool (BW g x y)/\σ'=[some (.var [xB g]),w7 y]):=by
 unfold w7;refine ak.begin (rs:=[.tmp 4]) (m:=6) 1000 Tryz.func217 rfl rfl rfl rfl rfl ?_;have h:=Zvs g hg mA x y hx hy;simp only[go_sem,gf,xB];refine ak.bm [] h (bL _ _ _) ⟨jU _,jU _,⟨cS _,trivial⟩,trivial⟩ ?_;simp only[bj,bA,bz,if_true];refine aC.g ?_;simp only[go_sem];rw[gy];exact⟨[some (.var [xB g]),w7 y],by simp[w7,xB,go_sem],by simp,⟨⟨of_eq_true (Ik g),trivial⟩,⟨trivial,trivial,bC _,trivial,bC _,trivial⟩,trivial⟩,trivial,rfl,rfl⟩
def lL (g:List Sy)(a:List Li):List Li->Bool
 |[]=>decide (0<a.length)
 |y :: b=>if a.any (λx=>BW g x y)=true then lL g a b else false
theorem SW (g:List Sy) (hg:uD g) (mA:g.length<1000000) (a b:List Li) (ha:a.length<1000000) (hb:b.length<1000000) (qi:∀x∈a,rF g x) (AW:∀x∈b,rF g x) :
  az Tryz.prog 199 [.ps 5 (lits a),.ps 5 (lits b),xB g] (.bool (lL g a b)):=by
 refine az.begin (rs:=[.tmp 6]) (m:=20) 1000 Tryz.func199 rfl rfl rfl (by decide) trivial ?_;have gc:(xB g).cells=[xB g]:=rfl;have gi:(xB g).dy=true:=rfl;simp only[go_sem,dA,gc,gi];refine aC.cA (ι:={i:Nat // i<=b.length/\lL g a (b.drop i)=lL g a b}) 1000 (λq=>dV 23 [(0,.ps 5 (lits a)),(5,.ptr 0 0),(6,.bool false),(9,.ps 5 (lits b)),(10,.int .i64 b.length),(11,.int .i64 q.1)])
  (λ_=>[some (.var [xB g])]) (λq=>b.length-q.1) ⟨0,by simp⟩ ?_ (λ_=>aj _) ?_
 ·simp only[go_sem,bI]
 ·rintro⟨i,hi,aD⟩;by_cases bx:(i:Int)<b.length
  ·have aL:i<b.length:=by omega
   have hw:=W1' i (by omega)
   have uE:=qs aL;have hyo:=AW _ (ay aL);rw[ai aL,lL]at aD;generalize b[i]=y at *
   have iG:bH 2 [some (bS.var [xB g]),w7 y]:=⟨⟨of_eq_true (Ik g),trivial⟩,⟨trivial,trivial,bC _,trivial,bC _,trivial⟩,trivial⟩;have hc:=Kv [some (bS.var [xB g]),w7 y] (.fn 217 [] [.ptr 0 0,.ptr 1 0]) (λx=>BW g x y) a (by omega) iG (by simp[go_sem]) (λj hj=>Yk8 g hg mA a[j] y (qi _ (ay hj)) hyo);unfold w7 at hc;simp only[go_sem,bx,dA,uE,gf];refine⟨by omega,?_⟩;refine hc.mono ?_;rintro r σ' ⟨rfl,rfl⟩;cases h3:a.any (λx=>BW g x y)
   ·rw[h3]at aD;simp only[aX,if_false]at aD;refine aC.g ?_;simp only[go_sem];refine aC.g ?_;simp only[go_sem,<-aD]
   ·rw[h3,if_pos rfl]at aD;refine aC.g ?_;simp only[go_sem,hw];refine⟨⟨i+1,by omega,aD⟩,?_,by simp only;omega⟩;simp only[go_sem,bI]
  ·have dm:i=b.length:=by omega
   subst dm;rw[aJ,lL]at aD;simp only[go_sem,bx];refine aC.g ?_;simp only[go_sem,dA,<-aD];exact congrArg ah.bool (decide_eq_decide.2 (by omega))
def qv (g:List Sy)(a b:List Li):Int×Int :=
 if aW g a≠0 then (0,aW g a) else if aW g b≠0 then (0,aW g b) else
 if (fC a b).length+(fC b a).length=0 then (0,0) else if lL g (fC a b) (fC b a)=true then (1,0) else if lL g (fC b a) (fC a b)=true then (-1,0) else (2,0)
theorem K1:∀(a b:List Li) (t:Li),t∈fC a b->t∈a
 |[],_,t,h=>by rw[fC]at h;cases h
 | x :: a,b,t,h=>by
  rw[fC]at h;split at h
  ·rcases aU.1 h with rfl|h
   ·simp
   ·exact ct _ (K1 a b t h)
  ·exact ct _ (K1 a _ t h)
theorem K8:∀(a b:List Li),(fC a b).length<=a.length
 |[],_=>by rw[fC];exact ae _
 |x :: a,b=>by
  rw[fC];split
  ·have:=K8 a b;simp only[aq];omega
  ·have:=K8 a (uT b (eF (λy=>dv x y) b 0).toNat);simp only[aq];omega
theorem Zw5 (g:List Sy) (hg:uD g) (mA:g.length<1000000) (a b:List Li) (QP:a≠[]) (ur:b≠[]) (ha:a.length<500000) (hb:b.length<500000) (qi:∀x∈a,rF g x) (AW:∀x∈b,rF g x) :
  az Tryz.prog 172 [.ps 4 (syms g),.ps 5 (lits a),.ps 5 (lits b)] (.dw [.int .i64 (qv g a b).1,.int .i64 (qv g a b).2]):=by
 refine az.begin (rs:=[.tmp 6,.tmp 7]) (m:=46) 1000 Tryz.func172 rfl rfl rfl (by decide) ⟨trivial,trivial,trivial⟩ ?_;have k1:=HZ g a (λi h=>by have:=(qi _ (ay h)).1;exact⟨by have:=this.1;omega,by have:=this.2;omega⟩);have k2:=HZ g b (λi h=>by have:=(AW _ (ay h)).1;exact⟨by have:=this.1;omega,by have:=this.2;omega⟩);simp only[go_sem];refine ak.bm [] k1 (bL _ _ _) ⟨cS _,bI _,trivial⟩ ?_;simp only[bj,bA,bz,if_true];refine aC.g ?_;by_cases h1:aW g a=0
 ·simp only[go_sem,h1];refine ak.bm [] k2 (bL _ _ _) ⟨cS _,bI _,trivial⟩ ?_;simp only[bj,bA,bz,if_true];refine aC.g ?_;by_cases h2:aW g b=0
  ·have hr:qv g a b=if (fC a b).length+(fC b a).length=0 then (0,0) else if lL g (fC a b) (fC b a)=true then (1,0) else if lL g (fC b a) (fC a b)=true then (-1,0) else (2,0):=by
    unfold qv;rw[if_neg (by simp[h1]),if_neg (by simp[h2])]
   have sza:∀t∈a,ua t:=λt ht=>(qi t ht).1;have szb:∀t∈b,ua t:=λt ht=>(AW t ht).1;have l1:=K8 a b;have l2:=K8 b a;have m1:∀t∈fC a b,rF g t:=λt ht=>qi t (K1 _ _ t ht);have m2:∀t∈fC b a,rF g t:=λt ht=>AW t (K1 _ _ t ht);have o1:=SW g hg mA (fC a b) (fC b a) (by omega) (by omega) m1 m2;have o2:=SW g hg mA (fC b a) (fC a b) (by omega) (by omega) m2 m1;rw[hr];simp only[go_sem,h2];refine ak.bm [] (Zh a b ur (by omega) (by omega) sza szb) (bL _ _ _) ⟨bI _,bI _,⟨trivial,trivial⟩,trivial⟩ ?_;rw[eW];simp only[ite_self];refine aC.g ?_;simp only[go_sem];refine ak.bm [] (Zh b a QP (by omega) (by omega) szb sza) (bL _ _ _) ⟨bI _,bI _,⟨trivial,trivial⟩,trivial⟩ ?_;rw[eW];simp only[ite_self];generalize fC a b=x at *
   generalize fC b a=y at *
   have sW:IntKind.i64.wrap ((x.length:Int)+y.length)=((x.length+y.length:Nat):Int):=by rw[dt (by omega)];omega
   refine aC.g ?_;by_cases h3:x.length+y.length=0
   ·rw[if_pos h3];have h4:((x.length+y.length:Nat):Int)=0:=by omega
    simp only[go_sem,dA,sW,h4]
   ·rw [if_neg h3];have h4:¬((x.length+y.length:Nat):Int)=0:=by omega
    simp only[go_sem,dA,sW,h4];refine ak.vM (b:=0) (cs:=[.ps 4 (syms g)]) [] rfl o1 (bL _ _ _) ⟨bI _,bI _,of_eq_true (Ik g),trivial⟩ rfl ?_;refine aC.g ?_;cases h5:lL g x y
    ·simp only[go_sem,h5];refine ak.vM (b:=0) (cs:=[.ps 4 (syms g)]) [] rfl o2 (bL _ _ _) ⟨bI _,bI _,of_eq_true (Ik g),trivial⟩ rfl ?_;refine aC.g ?_;cases h6:lL g y x
     ·simp only[go_sem,h6]
     ·simp only[go_sem,h6]
    ·simp only[go_sem,h5]
  ·have hr:qv g a b=(0,aW g b):=by unfold qv;rw[if_neg (by simp[h1]),if_pos h2]
   rw[hr];simp only[go_sem,h2]
 ·have hr:qv g a b=(0,aW g a):=by unfold qv;rw[if_pos h1]
  rw[hr];simp only[go_sem,h1]
theorem X7 {P:Program} {lo:Ctx} {Q:cB->St->Prop} {k:List KI} {ops:Array Oper} {l:List Oper} {fs:List Fp} {tm:List ah} {σ m:av} {d:Option Tmp} {g:FuncId} {first captured args args':List ah} {r:ah} {wr:List Nat} {b:Nat} {cs:List ah} (hb:bW m b=some (.var cs)) (hc:az P g args' r)
  (hp:mD (among []) (m.set b none) args' ((first++args++captured).map (v7 b cs))) (hl:bG 0 args') (uV:bj r=true)
  (h:iw P lo Q k ops l fs (put tm d r) (ew wr 0 m σ)):oN P lo Q k ops wr d l fs tm σ m (.fn g first captured) args :=
 ⟨r,m,ak.vM [] hb hc hp hl uV ⟨rfl,rfl⟩,Cr wr m 0,h⟩
def o7 (g:List Sy)(t:Tm):Bool:=decide (0<=t.head)&&((g[t.head.toNat]?).map Sy.cy).getD false
theorem X_ (g:List Sy) (t:Tm) (ht:t.head<g.length):az Tryz.prog 168 [t.aH,.pp [.ps 4 (syms g)]] (.bool (o7 g t)):=by
 refine az.begin (rs:=[.tmp 3]) (m:=13) 1000 Tryz.func168 rfl rfl rfl (by decide) trivial ?_;unfold o7;by_cases h : 0<=t.head
 ·have hk:t.head.toNat<g.length:=by omega
  have Jp:=sv hk;have hh:((g[t.head.toNat]?).map Sy.cy).getD false=(g[t.head.toNat]).cy:=by simp[hk]
  simp only[go_sem,dO,h,na,Jp,sw,decide_true,bO,hh];exact ht
 ·simp only[go_sem,dO,h,decide_false,bU]
def pN (g:List Sy)(u:Un)(t:Tm)(m:List Bd×Bool×Int)(s:Tm×Int)(k q:Int×Int):Tm×Bool :=
 if o7 g u.l≠o7 g t then (t,false) else if m.2.2≠0\/m.2.1=false then (t,false) else if s.2≠0 then (t,false) else
 if k.2≠0\/k.1≠1 then (t,false) else (s.1,decide (q.2=0)&&decide (q.1 = -1))
theorem Ygf (g:List Sy) (u:Un) (t:Tm) (c:List Li) (m:List Bd×Bool×Int) (s:Tm×Int) (k q:Int×Int) (hl:u.l.head<g.length) (ht:t.head<g.length)
  (hM:az Tryz.prog 169 [u.l.aH,t.aH] (.dw [.ps 3 (dp m.1),.bool m.2.1,.int .i64 m.2.2]))
  (hA:m.2.2=0->m.2.1=true->az Tryz.prog 170 [.ps 3 (dp m.1),u.r.aH] (.dw [s.1.aH,.int .i64 s.2]))
  (hK:m.2.2=0->m.2.1=true->s.2=0->az Tryz.prog 171 [.ps 4 (syms g),t.aH,s.1.aH] (.dw [.int .i64 k.1,.int .i64 k.2]))
  (hC:m.2.2=0->m.2.1=true->s.2=0->k.2=0->k.1=1->az Tryz.prog 172 [.ps 4 (syms g),.ps 5 (lits [⟨false,t,s.1⟩]),.ps 5 (lits c)] (.dw [.int .i64 q.1,.int .i64 q.2])) :
  az Tryz.prog 141 [.ps 4 (syms g),u.aH,t.aH,.ps 5 (lits c)] (.dw [(pN g u t m s k q).1.aH,.bool (pN g u t m s k q).2]):=by
 refine az.begin (rs:=[.cell 8 70,.tmp 9]) (m:=80) 1000 Tryz.func141 rfl rfl rfl (by decide) ⟨cV _,trivial,trivial⟩ ?_;have t1:=X_ g u.l hl;have t2:=X_ g t ht;have e1:v7 0 [.ps 4 (syms g)] (.ptr 0 0)=.pp [.ps 4 (syms g)]:=by simp[v7,Ar]
 simp only[go_sem,GQ,dO];refine aC.draw [] 4 4 mixed rfl rfl (by decide) ?_;simp only[go_sem,cM];refine X7 (b:=0) (cs:=[.ps 4 (syms g)]) rfl t1 (by simp only[cq];exact bL _ _ _) ⟨cV _,⟨cS _,trivial⟩,trivial⟩ rfl ?_;simp only[go_sem];refine X7 (b:=0) (cs:=[.ps 4 (syms g)]) rfl t2 (by simp only[cq];exact bL _ _ _) ⟨cV _,⟨cS _,trivial⟩,trivial⟩ rfl ?_;obtain⟨z,hz⟩:∃z,pN g u t m s k q=z:=⟨_,rfl⟩;rw[hz];unfold pN at hz;generalize o7 g u.l=p1 at *
 generalize o7 g t=p2 at *
 by_cases hp:p1=p2
 ·subst hp;rw[if_neg (by simp)]at hz;have RQ:(p1==p1)=true:=by simp
  simp only[go_sem,RQ];refine aC.g ?_;simp only[go_sem];refine ak.bm [] hM (by simp only[cq];exact bL _ _ _) ⟨cV _,cV _,trivial⟩ ?_;rw[eW];simp only[ite_self];refine aC.g ?_;by_cases c1:m.2.2=0
  ·cases c2:m.2.1 with
   |false =>
    rw[if_pos (.inr c2)]at hz;subst hz;simp only[go_sem,c1];rw[cq];exact bL _ _ _
   | true =>
    rw[if_neg (by simp[c1,c2])]at hz;simp only[go_sem,c1];refine ak.bm [] (hA c1 c2) (by simp only[cq];exact bL _ _ _) ⟨of_eq_true (nq _),cV _,trivial⟩ ?_;rw[eW];simp only[ite_self];refine aC.g ?_;by_cases c3:s.2=0
    ·rw [if_neg (by simp[c3])]at hz;simp only[go_sem,c3,dO];refine ak.bm [] (hK c1 c2 c3) (by simp only[cq];exact bL _ _ _) ⟨cS _,cV _,cV _,trivial⟩ ?_;rw[eW];simp only[ite_self];refine aC.g ?_;by_cases c4:k.2=0
     ·by_cases c5:k.1=1
      ·rw[if_neg (by simp[c4,c5])]at hz;subst hz;simp only[go_sem,c4,c5];refine ak.bm [5] (hC c1 c2 c3 c4 c5) ?_ ⟨cS _,bI _,bI _,trivial⟩ ?_
       ·simp only[go_sem,lits,aI,aR];exact nH _ _ (.agg _)
       rw[show bj (ah.dw [.int .i64 q.1,.int .i64 q.2])=true from rfl]
       simp only[if_true];refine aC.g ?_;by_cases c6:q.2=0
       ·simp only[go_sem,c6,decide_true,bO,dO];rw[cq];exact bL _ _ _
       ·simp only[go_sem,c6,decide_false,bU,dO];rw[cq];exact bL _ _ _
      ·rw[if_pos (.inr c5)]at hz;subst hz;simp only[go_sem,c4,c5];rw[cq];exact bL _ _ _
     ·rw[if_pos (.inl c4)]at hz;subst hz;simp only[go_sem,c4];rw[cq];exact bL _ _ _
    ·rw[if_pos c3]at hz;subst hz;simp only[go_sem,c3,dO];rw[cq];exact bL _ _ _
  ·rw[if_pos (.inl c1)]at hz;subst hz;simp only[go_sem,c1];rw[cq];exact bL _ _ _
 ·rw[if_pos hp]at hz;subst hz;have RQ:(p1==p2)=false:=by simpa using hp
  simp only[go_sem,RQ];refine aC.g ?_;simp only[go_sem,cq]
end Go.Proofs
namespace Go.Proofs
open Go Go.dq
theorem Yo1 {g:List Sy}{h:Int}(h0 : 0<=h)(h1:h<g.length):CP g h=(lN g h).arity:=by
 have hk:h.toNat<g.length:=by omega
 simp[CP,lN,List.getD,hk]
mutual
theorem XC (g:List Sy):∀t:Tm,t.good=true->t.known g=true->t.Dk g/\t.E6 g
 | .mk h ts,hg,hk=>by
  rw[Tm.good]at hg;rw[Tm.known]at hk;simp only[aG,bX,cZ,cb,decide_eq_true_eq,decide_eq_false_iff_not,dM]at hg hk;rw[Tm.Dk,Tm.E6];by_cases hn:h<0
  ·have uv:ts=[]:=by
    have:=hg.1.1.1.1;rcases this with h1|h1
    ·exact absurd hn h1
    ·exact bn (by omega)
   subst uv;exact⟨⟨by omega,trivial⟩,λh0=>by omega,trivial⟩
  ·rcases hk with hk|⟨⟨k1,k2⟩,k3⟩
   ·exact absurd hk hn
   ·obtain⟨a1,a2⟩:=WD g ts hg.2 k3;exact⟨⟨by omega,a1⟩,λh0=>by rw[Yo1 h0 (by omega)];exact k2,a2⟩
theorem WD (g:List Sy):∀ts:List Tm,Tm.fy ts=true->Tm.e8 g ts=true->Tm.Bj g ts/\Tm.Ag g ts
 |[],_,_=>⟨trivial,trivial⟩
 |t :: ts,hg,hk=>by
  rw[Tm.fy]at hg;rw[Tm.e8]at hk;simp only[aG]at hg hk;obtain⟨a1,a2⟩:=XC g t hg.1 hk.1;obtain⟨b1,b2⟩:=WD g ts hg.2 hk.2;exact⟨⟨a1,b1⟩,a2,b2⟩
end
theorem qZ {t:Tm} (h:t.check=0):t.size<=400/\t.depth<=40/\t.good=true:=by
 unfold Tm.check at h;by_cases h1 : 400<t.size
 ·rw[if_pos h1]at h;cases h
 ·rw [if_neg h1]at h;by_cases h2 : 40<t.depth
  ·rw[if_pos h2]at h;cases h
  ·rw[if_neg h2]at h;cases h3:t.good with
   |false=>rw[h3]at h;simp at h
   |true=>exact⟨by omega,by omega,rfl⟩
theorem K3 {g:List Sy}{t:Tm}(h:t.term g=0)(hf:t.fit):kj g t:=by
 obtain⟨h1,h2,_⟩:=n_ h;obtain⟨c1,_,c3⟩:=qZ h1;obtain⟨a1,a2⟩:=XC g t c3 h2;exact⟨by omega,a1,a2,hf⟩
theorem Ykk (bs:List Bd) (N:Nat) (hN : 1<=N) (hb:∀b∈bs,b.t.size<=N):∀t:Tm,t.head<0->t.args=[]->(t.sub bs).size<=N
 | .mk h ts,h0,h1=>by
  rw[TS h0,r8];cases hf:bs.find? (λb=>b.v == -1-(Tm.mk h ts).head) with
  |some b=>exact hb b (ck hf)
  |none =>
   simp only[lz,dD];rw[n9,h1];simp[Tm.bw];omega
mutual
theorem OC (bs:List Bd) (N:Nat) (hN : 1<=N) (hb:∀b∈bs,b.t.size<=N):∀t:Tm,t.good=true->(t.sub bs).size<=t.size*N
 | .mk h ts,hg=>by
  rw[Tm.good]at hg;simp only[aG,bX,cZ,decide_eq_false_iff_not,dM]at hg;by_cases hn:h<0
  ·have uv:ts=[]:=by
    rcases hg.1.1.1.1 with h1|h1
    ·exact absurd hn h1
    ·exact bn (by omega)
   have:=Ykk bs N hN hb (.mk h ts) hn uv;have hs:(Tm.mk h ts).size=1:=by rw[n9];simp[Tm.args,uv,Tm.bw]
   rw[hs];omega
  ·rw[Tm.sub,if_neg hn,Tm.size,Tm.size,bY];have:=Wx bs N hN hb ts hg.2;omega
theorem Wx (bs:List Bd) (N:Nat) (hN : 1<=N) (hb:∀b∈bs,b.t.size<=N):∀ts:List Tm,Tm.fy ts=true->Tm.bw (Tm.uM bs ts)<=Tm.bw ts*N
 |[],_=>by simp[Tm.uM,Tm.bw]
 |t :: ts,hg=>by
  rw[Tm.fy]at hg;simp only[aG]at hg;rw[Tm.uM,Tm.bw,Tm.bw,bY];have a1:=OC bs N hN hb t hg.1;have a2:=Wx bs N hN hb ts hg.2;omega
end
theorem UA {g:List Sy}(h:fH g=true):uD g/\g.length<=256:=by
 unfold fH at h;simp only[aG,bX,cZ,decide_eq_false_iff_not,bu,cd]at h;obtain⟨⟨⟨h1,h2⟩,h3⟩,_⟩:=h;refine⟨λs hs=>?_,by omega⟩;obtain⟨i,hi,rfl⟩:=j6.1 hs;have h4:=h3 i hi;unfold kN at h4;rw[CF hi]at h4;simp only[aG,Sy.right,bX,cZ,decide_eq_false_iff_not]at h4;omega
theorem KD {g:List Sy}{t:Tm}(h:t.term g=0):fH g=true:=by
 unfold Tm.term at h;cases hs:fH g with
 |false=>rw[hs]at h;simp at h
 |true=>rfl
theorem WR {g:List Sy}{l:Li}(hs:ua l)(hf:l.l.fit/\l.r.fit):rF g l:=⟨hs,λh=>⟨K3 (DK h).1 hf.1,K3 (DK h).2 hf.2⟩⟩
theorem Ynk {t:Tm}{i:Nat}(h:i<t.args.length)(p:List Int):t.mr ((i:Int):: p)=(t.args[i]).mr p:=by
 rw[Tm.mr,if_neg (by omega)];simp[h]
mutual
theorem G3:∀(t:Tm) (q p:List Int),p∈t.ib q->∃p',p=q++p'/\p'.length<t.size/\∃v,t.mr p'=some v/\v.size<=t.size
 | .mk h ts,q,p,hp=>by
  rw[Tm.ib]at hp;rcases aU.1 hp with rfl|hp
  ·exact⟨[],by simp,by rw[Tm.size];simp only[aF];omega,_,rfl,ae _⟩
  ·obtain⟨j,hj,p',rfl,h1,v,h2,h3⟩:=Xk ts q 0 p hp;have h4:=sO (ay hj);refine⟨((j:Int)):: p',by simp,?_,v,?_,?_⟩
   ·rw[Tm.size];simp only[aq];omega
   ·rw[Ynk (t:=.mk h ts) hj];exact h2
   ·rw[Tm.size];omega
theorem Xk:∀(ts:List Tm) (q:List Int) (i:Nat) (p:List Int),p∈Tm.kQ ts q i->∃(j:Nat) (hj:j<ts.length) (p':List Int),p=q++(((i+j:Nat):Int):: p')/\p'.length<(ts[j]).size/\∃v,(ts[j]).mr p'=some v/\v.size<=(ts[j]).size
 |[],_,_,p,hp=>by rw[Tm.kQ]at hp;cases hp
 |t :: ts,q,i,p,hp=>by
  rw[Tm.kQ]at hp;rcases a_.1 hp with hp|hp
  ·obtain⟨p',rfl,h1,v,h2,h3⟩:=G3 t _ p hp;exact⟨0,by simp,p',by simp,h1,v,h2,h3⟩
  ·obtain⟨j,hj,p',rfl,h1,v,h2,h3⟩:=Xk ts q (i+1) p hp;exact⟨j+1,by simpa using hj,p',by rw[show i+1+j=i+(j+1) by omega],by simpa using h1,v,by simpa using h2,by simpa using h3⟩
end
end Go.Proofs
namespace Go.Proofs
open Go Go.dq
def cU (i:Nat)(rt:Bool)(t:Tm):List mG:=(t.ib []).map λp=>⟨(i:Int),rt,p,(t.mr p).getD gQ⟩
def lj (i:Nat)(l:Li):List mG:=cU i false l.l++cU i true l.r
def cL:List Li->Nat->List mG
 |[],_=>[]
 |l :: c,i=>lj i l++cL c (i+1)
theorem Yk1 (c:List Li) (σ:av) (hs:bH σ.length σ):ak Tryz.prog (.fn 140 [] []) [.ps 5 (lits c)] σ
  (λr σ'=>r=.fn 165 [] [.ptr σ.length 0]/\σ' = σ++[some (.var [.ps 5 (lits c)])]):=by
 refine ak.begin (rs:=[.tmp 2]) (m:=3) 1000 Tryz.func140 rfl rfl rfl rfl rfl ?_;simp only[go_sem];rw[DW,gy];exact⟨_,gL _,by simp,qO (ph (by simp) hs) ⟨⟨bI _,trivial⟩,trivial⟩,by simp[go_sem],rfl,rfl⟩
def tZ (i:Nat)(l:Li)(j:Nat)(R:List mG):List mG:=if j=0 then cU i false l.l++(cU i true l.r++R) else if j=1 then cU i true l.r++R else R
theorem CR {N:Nat}{l:List ah}(h:bG N l):qt 9 9 l:=λρ eI=>sP ρ N (λb _=>eI b (by omega)) l h
theorem CS {N:Nat}{τ:av}(h:bH N τ):wD 9 9 τ:=λρ eI x hx=>by
 obtain⟨i,hi⟩:=List.mem_iff_getElem?.1 hx;exact CL ρ N (λb _=>eI b (by omega)) x (sq h i x hi)
theorem XR (c:List Li) (gM:c.length<1000000) (hc:∀l∈c,l.l.size<=400/\l.r.size<=400) (b0 b1 b2 b3 b4 b5 b6 b8:Option bS) (E:av) (k0:Nat) (y9:E.length=9) (D6:bH 9 E)
  (hs:bH 9 [b0,b1,b2,b3,b4,b5,b6,some (.var [.ps 5 (lits c)]),b8])
  (hy:∀k (h:k<(cL c 0).length),k<k0->ak Tryz.prog (.ni 8) [(cL c 0)[k].aH] [b0,b1,b2,b3,b4,b5,b6,some (.var [.ps 5 (lits c)]),b8] (λr σ'=>r=.bool true/\σ'=[b0,b1,b2,b3,b4,b5,b6,some (.var [.ps 5 (lits c)]),b8]))
  (hE:∀h:k0<(cL c 0).length,ak Tryz.prog (.ni 8) [(cL c 0)[k0].aH] [b0,b1,b2,b3,b4,b5,b6,some (.var [.ps 5 (lits c)]),b8] (λr σ'=>r=.bool false/\σ'=E)) :
  ak Tryz.prog (.fn 165 [] [.ptr 7 0]) [.ni 8] [b0,b1,b2,b3,b4,b5,b6,some (.var [.ps 5 (lits c)]),b8] (λ_ σ'=>σ'=if k0<(cL c 0).length then E else [b0,b1,b2,b3,b4,b5,b6,some (.var [.ps 5 (lits c)]),b8]):=by
 refine ak.begin (rs:=[]) (m:=52) 1000 Tryz.func165 rfl rfl rfl rfl rfl ?_;obtain⟨SP,Z5⟩:∃SP,cL c 0=SP:=⟨_,rfl⟩;simp only[Z5]at hy hE ⊢;simp only[go_sem,dA];refine aC.cA (ι:={q:Nat×Nat // q.1<=c.length/\q.2<=k0/\SP.drop q.2=cL (c.drop q.1) q.1}) 1000
  (λq=>dV 54 [(0,.ni 8),(11,.ps 5 (lits c)),(12,.int .i64 c.length),(13,.int .i64 q.1.1)]) (λ_=>[b0,b1,b2,b3,b4,b5,b6,some (.var [.ps 5 (lits c)]),b8]) (λq=>c.length-q.1.1) ⟨(0,0),by simp[Z5]⟩ ?_ (λ_=>ae _) ?_
 ·simp only[go_sem,bI];exact hs
 ·rintro ⟨⟨i,k⟩,hi,hk,aD⟩;simp only at hi hk aD;by_cases bx:(i:Int)<c.length
  ·have aL:i<c.length:=by omega
   have hw:=W1' i (by omega)
   have uE:=qs aL;have hls:=hc _ (ay aL);rw[ai aL,cL,lj,cg]at aD;generalize c[i]=l at *
   simp only[go_sem,bx,dA,uE,gf];refine⟨by omega,?_⟩;obtain⟨R,hR⟩:∃R,cL (c.drop (i+1)) (i+1)=R:=⟨_,rfl⟩;rw[hR]at aD;have lS:((2:Nat):Int)=2:=rfl;refine aC.cA (ι:={q:Nat×Nat // q.1<=2/\q.2<=k0/\SP.drop q.2=tZ i l q.1 R}) 1000
    (λq=>dV 54 [(0,.ni 8),(3,.int .i64 i),(11,.ps 5 (lits c)),(12,.int .i64 c.length),(13,.int .i64 i),(22,.os 10 0 2 2),(23,.int .i64 ((2:Nat):Int)),(24,.int .i64 q.1.1)])
    (λ_=>[b0,b1,b2,b3,b4,b5,b6,some (.var [.ps 5 (lits c)]),b8,none,some (.row [.agg [.int .i64 l.l.head,.ps 2 (l.l.args.map Tm.aH)],.agg [.int .i64 l.r.head,.ps 2 (l.r.args.map Tm.aH)]] 0)]) (λq=>2-q.1.1) ⟨(0,k),by simp only[tZ,if_true];exact⟨by omega,hk,aD⟩⟩ ?_ (λ_=>by simp) ?_
   ·have zW:=ph (show 9<=11 by decide) hs;simp only[go_sem,bI,bC];exact qO zW ⟨trivial,⟨⟨trivial,bC _,trivial⟩,⟨trivial,bC _,trivial⟩,trivial⟩,trivial⟩
   ·rintro ⟨⟨j,k'⟩,hj,eZ,tI⟩;simp only at hj eZ tI;have ap1:∀(j:Nat) (rt:Bool) (t:Tm) (T:List mG),True:=λ_ _ _ _=>trivial;obtain rfl|rfl|rfl:j=0\/j=1\/j=2:=by omega
    ·simp only[tZ,if_true]at tI;have fj:=UO l.l (by omega);simp only[go_sem,lS,aV];refine ak.bm [] (fj) (by(try simp only[cq]);exact bL _ _ _) (by simp[go_sem,cV,bC]) ?_;rw[eW];simp only[ite_self];refine aC.g ?_
     simp only[go_sem,y0,Ab];refine aC.cA (ι:={q:Nat×Nat // q.1<=l.l.size/\q.2<=k0/\SP.drop q.2=(cU i false l.l).drop q.1++(cU i true l.r++R)}) 1000
      (λq=>dV 54 [(0,.ni 8),(3,.int .i64 i),(5,.int .i64 0),(6,.ptr 11 0),(11,.ps 5 (lits c)),(12,.int .i64 c.length),(13,.int .i64 i),(22,.os 10 0 2 2),(23,.int .i64 ((2:Nat):Int)),(24,.int .i64 0),(30,.ps 1 (mL (l.l.ib []))),(31,.int .i64 l.l.size),(32,.int .i64 q.1.1)])
      (λ_=>[b0,b1,b2,b3,b4,b5,b6,some (.var [.ps 5 (lits c)]),b8,none,some (.row [.agg [.int .i64 l.l.head,.ps 2 (l.l.args.map Tm.aH)],.agg [.int .i64 l.r.head,.ps 2 (l.r.args.map Tm.aH)]] 0),some (.var [.int .i64 l.l.head,.ps 2 (l.l.args.map Tm.aH)])]) (λq=>l.l.size-q.1.1) ⟨(0,k'),by simp only[dQ];exact⟨aj _,eZ,tI⟩⟩ ?_ (λ_=>by simp) ?_
     ·have RX:=ph (show 9<=12 by decide) hs;simp only[go_sem,bI,bC,vX,lS];exact qO RX ⟨trivial,⟨⟨trivial,bC _,trivial⟩,⟨trivial,bC _,trivial⟩,trivial⟩,⟨trivial,bC _,trivial⟩,trivial⟩
     ·rintro ⟨⟨n,k2⟩,hn,pH,iT⟩;simp only at hn pH iT;by_cases nP:(n:Int)<l.l.size
      ·have tE:n<(l.l.ib []).length:=by rw[Ab];omega
       have lE:=W1' n (by omega)
       have Jo:(mL (l.l.ib [])).getD n .undef=.ps 1 (ints (l.l.ib [])[n]):=jT tE;obtain⟨p',A6,hp2,v,hv,nS⟩:=G3 l.l [] _ (ay tE);have rD:n<(cU i false l.l).length:=by simp only[cU,ao];exact tE
       have Df:(cU i false l.l)[n]=⟨(i:Int),false,(l.l.ib [])[n],(l.l.mr (l.l.ib [])[n]).getD gQ⟩:=by simp[cU]
       rw[aY]at A6;rw[ai rD,Df,A6,hv,bd]at iT;rw[A6]at Jo;have kU:=M8 l.l p' (by omega) (by omega);rw[hv,bd]at kU;simp only[go_sem,nP,y0,Ab,Jo,aj];refine⟨by omega,?_⟩;refine ak.bm [] (kU) (by(try simp only[cq]);exact bL _ _ _) (by simp[go_sem,cV,bC,cY]) ?_;rw[eW];simp only[ite_self];refine aC.g ?_
       simp only[go_sem,dO,Int.reduceEq];have C9:k2<SP.length:=by
        have:=congrArg List.length iT;simp only[cr,bq,aq]at this;omega
       rw[ai C9,bq]at iT;obtain⟨e1,e2⟩:=kZ iT;have Bi:bH 13 [none,some (bS.row [.agg [.int .i64 l.l.head,.ps 2 (l.l.args.map Tm.aH)],.agg [.int .i64 l.r.head,.ps 2 (l.r.args.map Tm.aH)]] 0),some (bS.var [.int .i64 l.l.head,.ps 2 (l.l.args.map Tm.aH)]),some (bS.var [.int .i64 v.head,.ps 2 (v.args.map Tm.aH)])] :=
        ⟨trivial,⟨⟨trivial,bC _,trivial⟩,⟨trivial,bC _,trivial⟩,trivial⟩,⟨trivial,bC _,trivial⟩,⟨trivial,bC _,trivial⟩,trivial⟩
       by_cases tB:k2<k0
       ·have yF:=hy k2 C9 tB;rw[e1]at yF;refine aC.tf (σ:=[b0,b1,b2,b3,b4,b5,b6,some (.var [.ps 5 (lits c)]),b8]) (τ:=[none,some (bS.row [.agg [.int .i64 l.l.head,.ps 2 (l.l.args.map Tm.aH)],.agg [.int .i64 l.r.head,.ps 2 (l.r.args.map Tm.aH)]] 0),some (bS.var [.int .i64 l.l.head,.ps 2 (l.l.args.map Tm.aH)]),some (bS.var [.int .i64 v.head,.ps 2 (v.args.map Tm.aH)])]) (.bool true) trivial (ae 9) ?_ ?_ hs (CR (N:=13) ?_) (CS Bi) ?_ Bi ?_
        ·exact cQ 8
        ·exact⟨⟨trivial,trivial,cY _,trivial,bC _,trivial⟩,trivial⟩
        ·simp[go_sem,bI,bC,cY,cV,vX]
        ·simp[go_sem,bI,bC,cY,cV,vX]
        refine yF.mono ?_;rintro r σ' ⟨rfl,rfl⟩;refine⟨rfl,ae _,hs,λb=>b,[b0,b1,b2,b3,b4,b5,b6,some (.var [.ps 5 (lits c)]),b8],rfl,λ_ _=>rfl,λ_ _ _ _ e=>e,?_,hs,?_⟩
        ·have:=Ct (π:=λb=>b) (B:=[b0,b1,b2,b3,b4,b5,b6,some (.var [.ps 5 (lits c)]),b8]) (own:=[]) (τ:=[]) hs (λ_ _=>rfl) trivial;simpa using this
        ·refine aC.g ?_;simp only[go_sem];refine⟨⟨(n+1,k2+1),by simp only;omega,by simp only;omega,by simp only;exact e2⟩,⟨by rw[lE],bI _,qO (ph (show 9<=12 by decide) hs) ⟨trivial,⟨⟨trivial,bC _,trivial⟩,⟨trivial,bC _,trivial⟩,trivial⟩,⟨trivial,bC _,trivial⟩,trivial⟩⟩,by simp only;omega⟩
       ·have Ro:k2=k0:=by omega
        subst Ro;have yF:=hE C9;rw[e1]at yF;refine aC.tf (σ:=[b0,b1,b2,b3,b4,b5,b6,some (.var [.ps 5 (lits c)]),b8]) (τ:=[none,some (bS.row [.agg [.int .i64 l.l.head,.ps 2 (l.l.args.map Tm.aH)],.agg [.int .i64 l.r.head,.ps 2 (l.r.args.map Tm.aH)]] 0),some (bS.var [.int .i64 l.l.head,.ps 2 (l.l.args.map Tm.aH)]),some (bS.var [.int .i64 v.head,.ps 2 (v.args.map Tm.aH)])]) (.bool false) trivial (ae 9) ?_ ?_ hs (CR (N:=13) ?_) (CS Bi) ?_ Bi ?_
        ·exact cQ 8
        ·exact⟨⟨trivial,trivial,cY _,trivial,bC _,trivial⟩,trivial⟩
        ·simp[go_sem,bI,bC,cY,cV,vX]
        ·simp[go_sem,bI,bC,cY,cV,vX]
        refine yF.mono ?_;rintro r σ' ⟨rfl,rfl⟩;refine⟨rfl,by rw[y9];exact ae _,by rw[y9];exact D6,λb=>b,σ',by rw[y9];rfl,λ_ _=>rfl,λ_ _ _ _ e=>e,?_,D6,?_⟩
        ·have:=Ct (π:=λb=>b) (B:=σ') (own:=[]) (τ:=[]) (by rw[y9];exact D6) (λ_ _=>rfl) trivial;simpa using this
        ·rw[if_pos C9];refine aC.g ?_;simp only[go_sem];refine aC.g ?_;simp only[go_sem];refine aC.g ?_;simp only[go_sem];refine aC.g ?_;simp only[go_sem];rw[gy];exact⟨σ',LA _ _,by rw[y9];exact ae _,by rw[y9];exact D6,trivial,rfl⟩
      ·have rW:n=l.l.size:=by omega
       have u0:(cU i false l.l).length=l.l.size:=by simp only[cU,ao];exact Ab _ _
       have e0:(cU i false l.l).drop n=[]:=dY (by omega);rw[e0,aY]at iT;simp only[go_sem,nP];refine aC.g ?_;simp only[go_sem];refine⟨⟨(1,k2),by simp only;omega,pH,by simp only[tZ];simpa using iT⟩,?_,by simp only;omega⟩;exact⟨⟨rfl,rfl⟩,bI _,qO (ph (show 9<=11 by decide) hs) ⟨trivial,⟨⟨trivial,bC _,trivial⟩,⟨trivial,bC _,trivial⟩,trivial⟩,trivial⟩⟩
    ·have tI:SP.drop k'=cU i true l.r++R:=by simpa[tZ] using tI
     have fj:=UO l.r (by omega);simp only[go_sem,lS,aV,bE];refine ak.bm [] (fj) (by(try simp only[cq]);exact bL _ _ _) (by simp[go_sem,cV,bC]) ?_;rw[eW];simp only[ite_self];refine aC.g ?_
     simp only[go_sem,y0,Ab];refine aC.cA (ι:={q:Nat×Nat // q.1<=l.r.size/\q.2<=k0/\SP.drop q.2=(cU i true l.r).drop q.1++R}) 1000
      (λq=>dV 54 [(0,.ni 8),(3,.int .i64 i),(5,.int .i64 1),(6,.ptr 11 0),(11,.ps 5 (lits c)),(12,.int .i64 c.length),(13,.int .i64 i),(22,.os 10 0 2 2),(23,.int .i64 ((2:Nat):Int)),(24,.int .i64 1),(30,.ps 1 (mL (l.r.ib []))),(31,.int .i64 l.r.size),(32,.int .i64 q.1.1)])
      (λ_=>[b0,b1,b2,b3,b4,b5,b6,some (.var [.ps 5 (lits c)]),b8,none,some (.row [.agg [.int .i64 l.l.head,.ps 2 (l.l.args.map Tm.aH)],.agg [.int .i64 l.r.head,.ps 2 (l.r.args.map Tm.aH)]] 0),some (.var [.int .i64 l.r.head,.ps 2 (l.r.args.map Tm.aH)])]) (λq=>l.r.size-q.1.1) ⟨(0,k'),by simp only[dQ];exact⟨aj _,eZ,tI⟩⟩ ?_ (λ_=>by simp) ?_
     ·have RX:=ph (show 9<=12 by decide) hs;simp only[go_sem,bI,bC,vX,lS];exact qO RX ⟨trivial,⟨⟨trivial,bC _,trivial⟩,⟨trivial,bC _,trivial⟩,trivial⟩,⟨trivial,bC _,trivial⟩,trivial⟩
     ·rintro ⟨⟨n,k2⟩,hn,pH,iT⟩;simp only at hn pH iT;by_cases nP:(n:Int)<l.r.size
      ·have tE:n<(l.r.ib []).length:=by rw[Ab];omega
       have lE:=W1' n (by omega)
       have Jo:(mL (l.r.ib [])).getD n .undef=.ps 1 (ints (l.r.ib [])[n]):=jT tE;obtain⟨p',A6,hp2,v,hv,nS⟩:=G3 l.r [] _ (ay tE);have rD:n<(cU i true l.r).length:=by simp only[cU,ao];exact tE
       have Df:(cU i true l.r)[n]=⟨(i:Int),true,(l.r.ib [])[n],(l.r.mr (l.r.ib [])[n]).getD gQ⟩:=by simp[cU]
       rw[aY]at A6;rw[ai rD,Df,A6,hv,bd]at iT;rw[A6]at Jo;have kU:=M8 l.r p' (by omega) (by omega);rw[hv,bd]at kU;simp only[go_sem,nP,y0,Ab,Jo,aj];refine⟨by omega,?_⟩;refine ak.bm [] (kU) (by(try simp only[cq]);exact bL _ _ _) (by simp[go_sem,cV,bC,cY]) ?_;rw[eW];simp only[ite_self];refine aC.g ?_
       simp only[go_sem,dO,Int.reduceEq];have C9:k2<SP.length:=by
        have:=congrArg List.length iT;simp only[cr,bq,aq]at this;omega
       rw[ai C9,bq]at iT;obtain⟨e1,e2⟩:=kZ iT;have Bi:bH 13 [none,some (bS.row [.agg [.int .i64 l.l.head,.ps 2 (l.l.args.map Tm.aH)],.agg [.int .i64 l.r.head,.ps 2 (l.r.args.map Tm.aH)]] 0),some (bS.var [.int .i64 l.r.head,.ps 2 (l.r.args.map Tm.aH)]),some (bS.var [.int .i64 v.head,.ps 2 (v.args.map Tm.aH)])] :=
        ⟨trivial,⟨⟨trivial,bC _,trivial⟩,⟨trivial,bC _,trivial⟩,trivial⟩,⟨trivial,bC _,trivial⟩,⟨trivial,bC _,trivial⟩,trivial⟩
       by_cases tB:k2<k0
       ·have yF:=hy k2 C9 tB;rw[e1]at yF;refine aC.tf (σ:=[b0,b1,b2,b3,b4,b5,b6,some (.var [.ps 5 (lits c)]),b8]) (τ:=[none,some (bS.row [.agg [.int .i64 l.l.head,.ps 2 (l.l.args.map Tm.aH)],.agg [.int .i64 l.r.head,.ps 2 (l.r.args.map Tm.aH)]] 0),some (bS.var [.int .i64 l.r.head,.ps 2 (l.r.args.map Tm.aH)]),some (bS.var [.int .i64 v.head,.ps 2 (v.args.map Tm.aH)])]) (.bool true) trivial (ae 9) ?_ ?_ hs (CR (N:=13) ?_) (CS Bi) ?_ Bi ?_
        ·exact cQ 8
        ·exact⟨⟨trivial,trivial,cY _,trivial,bC _,trivial⟩,trivial⟩
        ·simp[go_sem,bI,bC,cY,cV,vX]
        ·simp[go_sem,bI,bC,cY,cV,vX]
        refine yF.mono ?_;rintro r σ' ⟨rfl,rfl⟩;refine⟨rfl,ae _,hs,λb=>b,[b0,b1,b2,b3,b4,b5,b6,some (.var [.ps 5 (lits c)]),b8],rfl,λ_ _=>rfl,λ_ _ _ _ e=>e,?_,hs,?_⟩
        ·have:=Ct (π:=λb=>b) (B:=[b0,b1,b2,b3,b4,b5,b6,some (.var [.ps 5 (lits c)]),b8]) (own:=[]) (τ:=[]) hs (λ_ _=>rfl) trivial;simpa using this
        ·refine aC.g ?_;simp only[go_sem];refine⟨⟨(n+1,k2+1),by simp only;omega,by simp only;omega,by simp only;exact e2⟩,⟨by rw[lE],bI _,qO (ph (show 9<=12 by decide) hs) ⟨trivial,⟨⟨trivial,bC _,trivial⟩,⟨trivial,bC _,trivial⟩,trivial⟩,⟨trivial,bC _,trivial⟩,trivial⟩⟩,by simp only;omega⟩
       ·have Ro:k2=k0:=by omega
        subst Ro;have yF:=hE C9;rw[e1]at yF;refine aC.tf (σ:=[b0,b1,b2,b3,b4,b5,b6,some (.var [.ps 5 (lits c)]),b8]) (τ:=[none,some (bS.row [.agg [.int .i64 l.l.head,.ps 2 (l.l.args.map Tm.aH)],.agg [.int .i64 l.r.head,.ps 2 (l.r.args.map Tm.aH)]] 0),some (bS.var [.int .i64 l.r.head,.ps 2 (l.r.args.map Tm.aH)]),some (bS.var [.int .i64 v.head,.ps 2 (v.args.map Tm.aH)])]) (.bool false) trivial (ae 9) ?_ ?_ hs (CR (N:=13) ?_) (CS Bi) ?_ Bi ?_
        ·exact cQ 8
        ·exact⟨⟨trivial,trivial,cY _,trivial,bC _,trivial⟩,trivial⟩
        ·simp[go_sem,bI,bC,cY,cV,vX]
        ·simp[go_sem,bI,bC,cY,cV,vX]
        refine yF.mono ?_;rintro r σ' ⟨rfl,rfl⟩;refine⟨rfl,by rw[y9];exact ae _,by rw[y9];exact D6,λb=>b,σ',by rw[y9];rfl,λ_ _=>rfl,λ_ _ _ _ e=>e,?_,D6,?_⟩
        ·have:=Ct (π:=λb=>b) (B:=σ') (own:=[]) (τ:=[]) (by rw[y9];exact D6) (λ_ _=>rfl) trivial;simpa using this
        ·rw[if_pos C9];refine aC.g ?_;simp only[go_sem];refine aC.g ?_;simp only[go_sem];refine aC.g ?_;simp only[go_sem];refine aC.g ?_;simp only[go_sem];rw[gy];exact⟨σ',LA _ _,by rw[y9];exact ae _,by rw[y9];exact D6,trivial,rfl⟩
      ·have rW:n=l.r.size:=by omega
       have u0:(cU i true l.r).length=l.r.size:=by simp only[cU,ao];exact Ab _ _
       have e0:(cU i true l.r).drop n=[]:=dY (by omega);rw[e0,aY]at iT;simp only[go_sem,nP];refine aC.g ?_;simp only[go_sem];refine⟨⟨(2,k2),by simp only;omega,pH,by simp only[tZ];simpa using iT⟩,?_,by simp only;omega⟩;exact⟨⟨rfl,by first|rfl|exact congrArg (ah.int .i64) (dt (n:=1+1) (by omega)).symm⟩,bI _,qO (ph (show 9<=11 by decide) hs) ⟨trivial,⟨⟨trivial,bC _,trivial⟩,⟨trivial,bC _,trivial⟩,trivial⟩,trivial⟩⟩
    ·have iT:SP.drop k'=R:=by simpa[tZ] using tI
     simp only[go_sem,lS,kY];refine aC.g ?_;simp only[go_sem,hw];refine⟨⟨(i+1,k'),by simp only;omega,eZ,by simp only;rw[iT,hR]⟩,?_,by simp only;omega⟩;simp only[go_sem,bI];exact hs
  ·have dm:i=c.length:=by omega
   subst dm;rw[aJ,cL]at aD;have ov:¬k0<SP.length:=by have:=List.drop_eq_nil_iff.1 aD;omega
   rw[if_neg ov];simp only[go_sem,bx];refine aC.g ?_;simp only[go_sem];rw[gy];exact⟨_,gL _,ae _,hs,trivial,rfl⟩
end Go.Proofs
namespace Go.Proofs
open Go Go.dq
def fV (T:Un->mG->Tm×Bool)(s:mG):List Un->Option (Un×Tm)
 |[]=>none
 |u :: us=>if (T u s).2=true then some (u,(T u s).1) else fV T s us
def jM (T:Un->mG->Tm×Bool) (us:List Un):List mG->Option (mG×Un×Tm)
 |[]=>none
 |s :: ss=>match fV T s us with
  |some x=>some (s,x)
  |none=>jM T us ss
def lM (g:List Sy)(T:Un->mG->Tm×Bool)(us:List Un)(c:List Li):List Li×Int×Bool×Int :=
 match jM T us (cL c 0) with
 |none=>(c, -1,false,0)
 |some (s,u,t)=>if aW g (ll c s t)=0 then (ll c s t,u.off,true,0) else ([],0,false,aW g (ll c s t))
theorem HO (T:Un->mG->Tm×Bool) (us:List Un):∀ss:List mG,(jM T us ss=none/\∀s∈ss,fV T s us=none)\/∃(k:Nat) (h:k<ss.length) (x:Un×Tm),jM T us ss=some (ss[k],x)/\fV T ss[k] us=some x/\∀j (hj:j<ss.length),j<k->fV T ss[j] us=none
 |[]=>.inl ⟨rfl,λs h=>by cases h⟩
 | s :: ss=>by
  cases hu:fV T s us with
  |some x=>exact .inr ⟨0,by simp,x,by simp[jM,hu],by simpa using hu,λj _ h=>by omega⟩
  | none =>
   rcases HO T us ss with⟨h1,h2⟩|⟨k,h,x,h1,h2,h3⟩
   ·refine .inl ⟨by simp[jM,hu,h1],λy hy=>?_⟩;rcases aU.1 hy with rfl|hy
    ·exact hu
    ·exact h2 y hy
   ·refine .inr ⟨k+1,by simpa using h,x,by simp[jM,hu,h1],by simpa using h2,λj hj hjk=>?_⟩;cases j with
    |zero=>simpa using hu
    |succ j=>simpa using h3 j (by simpa using hj) (by omega)
end Go.Proofs
namespace Go.Proofs
open Go Go.dq
theorem Ylx (g:List Sy) (us:List Un) (c:List Li) (T:Un->mG->Tm×Bool) (uI:us.length<1000000) (gM:c.length<1000000) (hc:∀l∈c,l.l.size<=400/\l.r.size<=400)
  (hT:∀u∈us,∀s∈cL c 0,az Tryz.prog 141 [.ps 4 (syms g),u.aH,s.t.aH,.ps 5 (lits c)] (.dw [(T u s).1.aH,.bool (T u s).2]))
  (hP:∀u∈us,∀s∈cL c 0,az Tryz.prog 142 [.ps 5 (lits c),s.aH,(T u s).1.aH] (.ps 5 (lits (ll c s (T u s).1))))
  (hK:∀u∈us,∀s∈cL c 0,(T u s).2=true->az Tryz.prog 28 [.ps 4 (syms g),.ps 5 (lits (ll c s (T u s).1))] (.int .i64 (aW g (ll c s (T u s).1)))) :
  az Tryz.prog 109 [.ps 4 (syms g),.ps 5 (j5 us),.ps 5 (lits c)] (.dw [.ps 5 (lits (lM g T us c).1),.int .i64 (lM g T us c).2.1,.bool (lM g T us c).2.2.1,.int .i64 (lM g T us c).2.2.2]):=by
 refine az.begin (rs:=[.cell 6 24,.cell 7 3,.cell 8 4,.cell 9 29]) (m:=49) 1000 Tryz.func109 rfl rfl rfl (by decide) ⟨bI _,trivial,trivial,trivial,trivial⟩ ?_;simp only[go_sem];refine(Yk1 c _ ?_).mono ?_
 ·simp[go_sem,bI,cS,uR]
 rintro _ _ ⟨rfl,rfl⟩;refine aC.g ?_;simp only[go_sem];refine aC.rangeFunc (dV 52 [(3,.ptr 0 0),(4,.ptr 1 0),(5,.ptr 2 0),(6,.ptr 3 0),(7,.ptr 4 0),(8,.ptr 5 0),(9,.ptr 6 0)]) ?_ ?_ (λρ ht xL kU tv=>?_)
 ·simp only[go_sem]
 ·exact λb hb=>by cases hb
 simp only[go_sem];have ka:∀n,7<=n->bG n ρ.tm:=λn hn=>iD hn (show bG 7 ρ.tm by rw[ht];simp[go_sem,Cz,CH]);have gE:∀(a:ah) (b c' d:ah) (s:il),a.low 0->b.low 0->c'.low 0->d.low 0->bH 9 [some (bS.var [.ps 4 (syms g)]),some (bS.var [.ps 5 (j5 us)]),some (bS.var [.ps 5 (lits c)]),some (bS.var [a]),some (bS.var [b]),some (bS.var [c']),some (bS.var [d]),some (bS.var [.ps 5 (lits c)]),some (bS.loop (ρ.at s))]:=λa b c' d s h1 h2 h3 h4 =>
  ⟨⟨cS _,trivial⟩,⟨uR _,trivial⟩,⟨bI _,trivial⟩,⟨oJ (aj _) h1,trivial⟩,⟨oJ (aj _) h2,trivial⟩,⟨oJ (aj _) h3,trivial⟩,⟨oJ (aj _) h4,trivial⟩,⟨bI _,trivial⟩,ka 9 (by decide),trivial⟩
 have wQ:∀k (h:k<(cL c 0).length),fV T (cL c 0)[k] us=none->ak Tryz.prog (.ni 8) [(cL c 0)[k].aH] [some (bS.var [.ps 4 (syms g)]),some (bS.var [.ps 5 (j5 us)]),some (bS.var [.ps 5 (lits c)]),some (bS.var [.a8]),some (bS.var [.int .i64 0]),some (bS.var [.bool false]),some (bS.var [.int .i64 0]),some (bS.var [.ps 5 (lits c)]),some (bS.loop (ρ.at .ready))] (λr σ'=>r=.bool true/\σ'=[some (bS.var [.ps 4 (syms g)]),some (bS.var [.ps 5 (j5 us)]),some (bS.var [.ps 5 (lits c)]),some (bS.var [.a8]),some (bS.var [.int .i64 0]),some (bS.var [.bool false]),some (bS.var [.int .i64 0]),some (bS.var [.ps 5 (lits c)]),some (bS.loop (ρ.at .ready))]):=λk h Ed=>by
  refine ak.m8 1000 ht xL kU tv rfl rfl ?_;simp only[go_sem,Ob,vz];have j0:=ay h;have QM:∀u∈us,az Tryz.prog 141 [.ps 4 (syms g),u.aH,(cL c 0)[k].t.aH,.ps 5 (lits c)] (.dw [(T u (cL c 0)[k]).1.aH,.bool (T u (cL c 0)[k]).2]):=λu hu=>hT u hu _ j0;generalize (cL c 0)[k]=sp at *
  have zk:∀(l:List Un),fV T sp l=none->∀u∈l,(T u sp).2=false:=λl=>by
   induction l with
   |nil=>intro _ u hu;cases hu
   | cons a l ih =>
    intro hf u hu;rw[fV]at hf;cases ha:(T a sp).2 with
    |true=>rw[ha]at hf;simp at hf
    |false =>
     rw[ha]at hf;rcases aU.1 hu with rfl|hu
     ·exact ha
     ·exact ih (by simpa using hf) u hu
  have iG:=gE .a8 (.int .i64 0) (.bool false) (.int .i64 0) .busy trivial trivial trivial trivial;have sD:bH 10 [some (bS.var [.ps 4 (syms g)]),some (bS.var [.ps 5 (j5 us)]),some (bS.var [.ps 5 (lits c)]),some (bS.var [.a8]),some (bS.var [.int .i64 0]),some (bS.var [.bool false]),some (bS.var [.int .i64 0]),some (bS.var [.ps 5 (lits c)]),some (bS.loop (ρ.at .busy)),some (bS.var [.int .i64 sp.i,.bool sp.rt,.ps 1 (ints sp.p),.int .i64 sp.t.head,.ps 2 (sp.t.args.map Tm.aH)])] :=
   qO (ph (show 9<=10 by decide) iG) ⟨⟨trivial,trivial,cY _,trivial,bC _,trivial⟩,trivial⟩
  refine aC.cA (ι:={j:Nat // j<=us.length}) 1000 (λq=>dV 52 [(3,.ptr 0 0),(4,.ptr 1 0),(5,.ptr 2 0),(6,.ptr 3 0),(7,.ptr 4 0),(8,.ptr 5 0),(9,.ptr 6 0),(10,.ptr 9 0),(20,.ps 5 (j5 us)),(21,.int .i64 us.length),(22,.int .i64 q.1)])
   (λ_=>[some (bS.var [.ps 4 (syms g)]),some (bS.var [.ps 5 (j5 us)]),some (bS.var [.ps 5 (lits c)]),some (bS.var [.a8]),some (bS.var [.int .i64 0]),some (bS.var [.bool false]),some (bS.var [.int .i64 0]),some (bS.var [.ps 5 (lits c)]),some (bS.loop (ρ.at .busy)),some (bS.var [.int .i64 sp.i,.bool sp.rt,.ps 1 (ints sp.p),.int .i64 sp.t.head,.ps 2 (sp.t.args.map Tm.aH)])])
   (λq=>us.length-q.1) ⟨0,aj _⟩ ?_ (λ_=>by simp) ?_
  ·simp only[go_sem,of_eq_true (show bG 10 (j5 us)=True from eq_true (uR us))]
   exact⟨cS _,bI _,bI _,ka 10 (by decide),cY _,bC _⟩
  ·rintro⟨j,hj⟩;by_cases bx:(j:Int)<us.length
   ·have aL:j<us.length:=by omega
    have hw:=W1' j (by omega)
    have B6:(j5 us).getD j .undef=us[j].aH:=jT aL;have Hw:=ay aL;have iz:=QM _ Hw;rw[zk us Ed _ Hw]at iz;generalize us[j]=u at *
    simp only[go_sem,bx,vz,B6,GQ];refine⟨by omega,?_⟩;refine ak.bm [] iz (by simp only[cq];exact bL _ _ _) ⟨cS _,Kn u,cV _,bI _,trivial⟩ ?_;rw[eW];simp only[ite_self];refine aC.g ?_;simp only[go_sem,dO,hw];refine⟨⟨j+1,by omega⟩,?_,by simp only;omega⟩;simp only[go_sem,of_eq_true (show bG 10 (j5 us)=True from eq_true (uR us))]
    exact⟨cS _,bI _,bI _,ka 10 (by decide),cY _,bC _⟩
   ·simp only[go_sem,bx];refine aC.g ?_;simp only[go_sem];rw[wB];exact⟨rfl,[some (bS.var [.ps 4 (syms g)]),some (bS.var [.ps 5 (j5 us)]),some (bS.var [.ps 5 (lits c)]),some (bS.var [.a8]),some (bS.var [.int .i64 0]),some (bS.var [.bool false]),some (bS.var [.int .i64 0]),some (bS.var [.ps 5 (lits c)]),some (bS.loop (ρ.at .ready))],by simp[go_sem],ae _,gE _ _ _ _ _ trivial trivial trivial trivial,rfl,rfl⟩
 rcases HO T us (cL c 0) with⟨f1,f2⟩|⟨k,hk,x,f1,f2,f3⟩
 ·refine (XR c gM hc _ _ _ _ _ _ _ _ _ (cL c 0).length rfl (gE .a8 (.int .i64 0) (.bool false) (.int .i64 0) .ready trivial trivial trivial trivial) (gE .a8 (.int .i64 0) (.bool false) (.int .i64 0) .ready trivial trivial trivial trivial) (λk h _=>?_) (λh=>absurd h (jF _))).mono ?_
  ·exact wQ k h (f2 _ (ay h))
  ·have hF:lM g T us c=(c, -1,false,0):=by unfold lM;rw[f1]
   rintro r' jO rfl;rw[if_neg (jF _),E3];refine⟨.ready,rfl,?_⟩;rw[G0,hF];refine aC.g ?_;simp only[go_sem]
 ·have j0:=ay hk;obtain⟨z,hz⟩:∃z,lM g T us c=z:=⟨_,rfl⟩;rw[hz];obtain⟨a3,B0⟩:∃a3:ah,a3=if aW g (ll c (cL c 0)[k] x.2)=0 then .ps 5 (lits z.1) else .a8:=⟨_,rfl⟩
  have QQ:a3.low 0:=by rw[B0];split<;>simp[go_sem,bI]
  have JU:ak Tryz.prog (.ni 8) [(cL c 0)[k].aH] [some (bS.var [.ps 4 (syms g)]),some (bS.var [.ps 5 (j5 us)]),some (bS.var [.ps 5 (lits c)]),some (bS.var [.a8]),some (bS.var [.int .i64 0]),some (bS.var [.bool false]),some (bS.var [.int .i64 0]),some (bS.var [.ps 5 (lits c)]),some (bS.loop (ρ.at .ready))] (λr σ'=>r=.bool false/\σ'=[some (bS.var [.ps 4 (syms g)]),some (bS.var [.ps 5 (j5 us)]),some (bS.var [.ps 5 (lits c)]),some (bS.var [a3]),some (bS.var [.int .i64 z.2.1]),some (bS.var [.bool z.2.2.1]),some (bS.var [.int .i64 z.2.2.2]),some (bS.var [.ps 5 (lits c)]),some (bS.loop (ρ.at (.done .ret)))]):=by
   refine ak.m8 1000 ht xL kU tv rfl rfl ?_;simp only[go_sem,Ob,vz];have Dj:z=if aW g (ll c (cL c 0)[k] x.2)=0 then (ll c (cL c 0)[k] x.2,x.1.off,true,0) else ([],0,false,aW g (ll c (cL c 0)[k] x.2)):=by
    rw[<-hz];unfold lM;rw[f1]
   have QM:∀u∈us,az Tryz.prog 141 [.ps 4 (syms g),u.aH,(cL c 0)[k].t.aH,.ps 5 (lits c)] (.dw [(T u (cL c 0)[k]).1.aH,.bool (T u (cL c 0)[k]).2]):=λu hu=>hT u hu _ j0;have hPs:=λu hu=>hP u hu _ j0;have hKs:=λu hu=>hK u hu _ j0;generalize (cL c 0)[k]=sp at *
   have sD:bH 10 [some (bS.var [.ps 4 (syms g)]),some (bS.var [.ps 5 (j5 us)]),some (bS.var [.ps 5 (lits c)]),some (bS.var [.a8]),some (bS.var [.int .i64 0]),some (bS.var [.bool false]),some (bS.var [.int .i64 0]),some (bS.var [.ps 5 (lits c)]),some (bS.loop (ρ.at .busy)),some (bS.var [.int .i64 sp.i,.bool sp.rt,.ps 1 (ints sp.p),.int .i64 sp.t.head,.ps 2 (sp.t.args.map Tm.aH)])] :=
    qO (ph (show 9<=10 by decide) (gE .a8 (.int .i64 0) (.bool false) (.int .i64 0) .busy trivial trivial trivial trivial)) ⟨⟨trivial,trivial,cY _,trivial,bC _,trivial⟩,trivial⟩
   refine aC.cA (ι:={j:Nat // j<=us.length/\fV T sp (us.drop j)=some x}) 1000 (λq=>dV 52 [(3,.ptr 0 0),(4,.ptr 1 0),(5,.ptr 2 0),(6,.ptr 3 0),(7,.ptr 4 0),(8,.ptr 5 0),(9,.ptr 6 0),(10,.ptr 9 0),(20,.ps 5 (j5 us)),(21,.int .i64 us.length),(22,.int .i64 q.1)])
    (λ_=>[some (bS.var [.ps 4 (syms g)]),some (bS.var [.ps 5 (j5 us)]),some (bS.var [.ps 5 (lits c)]),some (bS.var [.a8]),some (bS.var [.int .i64 0]),some (bS.var [.bool false]),some (bS.var [.int .i64 0]),some (bS.var [.ps 5 (lits c)]),some (bS.loop (ρ.at .busy)),some (bS.var [.int .i64 sp.i,.bool sp.rt,.ps 1 (ints sp.p),.int .i64 sp.t.head,.ps 2 (sp.t.args.map Tm.aH)])])
    (λq=>us.length-q.1) ⟨0,aj _,by simpa using f2⟩ ?_ (λ_=>by simp) ?_
   ·simp only[go_sem,of_eq_true (show bG 10 (j5 us)=True from eq_true (uR us))]
    exact⟨cS _,bI _,bI _,ka 10 (by decide),cY _,bC _⟩
   ·rintro ⟨j,hj,Ee⟩;by_cases aL:j<us.length
    ·have bx:(j:Int)<us.length:=by omega
     have hw:=W1' j (by omega)
     have B6:(j5 us).getD j .undef=us[j].aH:=jT aL;have Hw:=ay aL;have iz:=QM _ Hw;have hPu:=hPs _ Hw;have Z0:=hKs _ Hw;rw[ai aL,fV]at Ee;generalize us[j]=u at *
     simp only[go_sem,bx,vz,B6,GQ];refine⟨by omega,?_⟩;refine ak.bm [] iz (by simp only[cq];exact bL _ _ _) ⟨cS _,Kn u,cV _,bI _,trivial⟩ ?_;rw[eW];simp only[ite_self];refine aC.g ?_;cases hq:(T u sp).2 with
     |false =>
      rw[hq]at Ee;simp only[aX,if_false]at Ee;simp only[go_sem,hq,dO,hw];refine⟨⟨j+1,by omega,Ee⟩,?_,by simp only;omega⟩;simp only[go_sem,of_eq_true (show bG 10 (j5 us)=True from eq_true (uR us))]
      exact⟨cS _,bI _,bI _,ka 10 (by decide),cY _,bC _⟩
     |true =>
      rw[hq,if_pos rfl]at Ee;obtain rfl:=aS Ee;simp only at Dj Z0 B0;simp only[go_sem,hq,dO];refine ak.bm [] hPu (by simp only[cq];exact bL _ _ _) ⟨bI _,Yvf sp,cV _,trivial⟩ ?_;rw[eW];simp only[ite_self];refine aC.g ?_;simp only[go_sem];refine ak.bm [] (Z0 hq) (bL _ _ _) ⟨cS _,bI _,trivial⟩ ?_;rw[eW];simp only[ite_self];refine aC.g ?_;by_cases p7:aW g (ll c sp (T u sp).1)=0
      ·rw[if_pos p7]at Dj B0;subst Dj;subst B0;simp only[go_sem,p7];refine aC.draw [.no,⟨none,[],[3]⟩,⟨none,[],[3]⟩,⟨none,[3],[]⟩,⟨none,[4],[]⟩,⟨none,[5],[]⟩,⟨none,[6],[]⟩] 12 12 mixed rfl rfl (by decide) ?_;simp only[go_sem,cM];refine aC.g ?_;simp only[go_sem];refine aC.g ?_;simp only[go_sem];rw[wB];exact⟨rfl,[some (bS.var [.ps 4 (syms g)]),some (bS.var [.ps 5 (j5 us)]),some (bS.var [.ps 5 (lits c)]),some (bS.var [.ps 5 (lits (ll c sp (T u sp).1))]),some (bS.var [.int .i64 u.off]),some (bS.var [.bool true]),some (bS.var [.int .i64 0]),some (bS.var [.ps 5 (lits c)]),some (bS.loop (ρ.at (.done .ret)))],by simp[go_sem],ae _,gE _ _ _ _ _ (bI _) trivial trivial trivial,rfl,rfl⟩
      ·rw[if_neg p7]at Dj B0;subst Dj;subst B0;simp only[go_sem,p7];refine aC.g ?_;simp only[go_sem];rw[wB];exact⟨rfl,[some (bS.var [.ps 4 (syms g)]),some (bS.var [.ps 5 (j5 us)]),some (bS.var [.ps 5 (lits c)]),some (bS.var [.a8]),some (bS.var [.int .i64 0]),some (bS.var [.bool false]),some (bS.var [.int .i64 (aW g (ll c sp (T u sp).1))]),some (bS.var [.ps 5 (lits c)]),some (bS.loop (ρ.at (.done .ret)))],by simp[go_sem],ae _,gE _ _ _ _ _ trivial trivial trivial trivial,rfl,rfl⟩
    ·rw[dY (by omega),fV]at Ee;cases Ee
  refine(XR c gM hc _ _ _ _ _ _ _ _ [some (bS.var [.ps 4 (syms g)]),some (bS.var [.ps 5 (j5 us)]),some (bS.var [.ps 5 (lits c)]),some (bS.var [a3]),some (bS.var [.int .i64 z.2.1]),some (bS.var [.bool z.2.2.1]),some (bS.var [.int .i64 z.2.2.2]),some (bS.var [.ps 5 (lits c)]),some (bS.loop (ρ.at (.done .ret)))] k rfl (gE _ _ _ _ _ QQ trivial trivial trivial) (gE .a8 (.int .i64 0) (.bool false) (.int .i64 0) .ready trivial trivial trivial trivial) (λj h hjk=>wQ j h (f3 j h hjk)) (λ_=>JU)).mono ?_;rintro r' jO rfl;rw[if_pos hk,E3];refine⟨.done .ret,rfl,?_⟩;rw[Yy2];have rY:aW g (ll c (cL c 0)[k] x.2)≠0->z.1=[]:=λdL=>by
   rw[<-hz];unfold lM;rw[f1];simp only[if_neg dL]
  by_cases p7:aW g (ll c (cL c 0)[k] x.2)=0
  ·rw[if_pos p7]at B0;subst B0;refine aC.g ?_;simp only[go_sem]
  ·rw[if_neg p7]at B0;subst B0;rw[rY p7];refine aC.g ?_;simp only[go_sem,show lits []=[] from rfl]
def zt (g:List Sy)(us:List Un)(c:List Li)(u:List Int):av:=[some (.var [.ps 4 (syms g)]),some (.var [.ps 5 (lits c)]),some (.var [eR 4 1 (ints u)]),some (.var [.ps 5 (j5 us)]),cX (ints u)]
def Ss (g:List Sy)(us:List Un)(c:List Li)(u:List Int):av:=[some (.var [.ps 4 (syms g)]),some (.var [.ps 5 (lits c)]),some (.var [eR 6 1 (ints u)]),some (.var [.ps 5 (j5 us)]),none,none,cX (ints u)]
theorem Yv2 (g:List Sy) (us:List Un) (c:List Li) (u:List Int) (z:List Li×Int×Bool×Int) (hu:u.length<1000000)
  (hS:az Tryz.prog 109 [.ps 4 (syms g),.ps 5 (j5 us),.ps 5 (lits c)] (.dw [.ps 5 (lits z.1),.int .i64 z.2.1,.bool z.2.2.1,.int .i64 z.2.2.2])) :
  ak Tryz.prog (.fn 108 [] [.ptr 0 0,.ptr 3 0,.ptr 1 0,.ptr 2 0]) [] (zt g us c u)
   (λr σ'=>r=.dw [.bool z.2.2.1,.int .i64 z.2.2.2]/\σ'=if z.2.2.2=0/\z.2.2.1=true then Ss g us z.1 (u++[z.2.1]) else zt g us c u):=by
 unfold zt;refine ak.begin (rs:=[.tmp 4,.tmp 5]) (m:=27) 1000 Tryz.func108 rfl rfl rfl rfl rfl ?_;simp only[go_sem];refine ak.bm [] hS (bL _ _ _) ⟨cS _,uR _,bI _,trivial⟩ ?_;rw[eW];simp only[ite_self];refine aC.g ?_;have lg:bH 5 (zt g us c u):=by
  unfold zt;simp[go_sem,cS,bI,uR,cY]
 by_cases h1:z.2.2.2=0
 ·cases h2:z.2.2.1 with
  |true =>
   have xJ:bW [some (bS.var [ah.ps 4 (syms g)]),some (bS.var [ah.ps 5 (lits c)]),some (bS.var [eR 4 1 (ints u)]),some (bS.var [ah.ps 5 (j5 us)]),cX (ints u),some (bS.row [ah.int .i64 z.2.1] 0)] 4=cX (ints u):=by simp[bW]
   simp only[go_sem,h1,qg xJ,eE,aK,forall_eq,bF,ae,ja];refine⟨by omega,?_⟩;rw[gy];unfold Ss;rw[yV,qP (by simp),qQ (by simp),ja];refine⟨_,?_,by simp,?_,by simp[go_sem],rfl,rfl⟩
   ·simp[ic]
   ·simp[go_sem,cS,bI,uR];rw[OS];exact cY _
  |false =>
   simp only[go_sem,h1];rw[gy];exact⟨_,gL _,by simp,lg,by simp[go_sem],rfl,rfl⟩
 ·simp only[go_sem,h1];rw[gy];exact⟨_,gL _,by simp,lg,by simp[go_sem],rfl,rfl⟩
def eJ (S:List Li->List Li×Int×Bool×Int):Nat->List Li->List Int->List Li×List Int×Int
 |0,_,_=>([],[],9)
 |n+1,c,u=>if (S c).2.2.2≠0 then ([],[],(S c).2.2.2) else if (S c).2.2.1=false then (c,u,0) else if 200<u.length+1 then ([],[],9) else eJ S n (S c).1 (u++[(S c).2.1])
theorem SY (S:List Li->List Li×Int×Bool×Int):∀n c u,u.length<=200->(eJ S n c u).2.1.length<=200
 |0,_,_,_=>aj _
 |n+1,c,u,hu=>by
  rw[eJ];split
  ·exact aj _
  split
  ·exact hu
  split
  ·exact aj _
  ·exact SY S n _ _ (by rw[aA];simp only[aq,aF];omega)
def ie (w:Int)(S:List Li->List Li×Int×Bool×Int)(c:List Li):List Li×List Int×Int:=if w≠0 then ([],[],w) else eJ S 201 c []
theorem Yjg (g:List Sy) (es:List (List Li)) (us:List Un) (c:List Li) (w:Int) (S:List Li->List Li×Int×Bool×Int) (I:List Li->Prop)
  (hW:az Tryz.prog 106 [.ps 4 (syms g),.ps 1 (c9 es),.ps 5 (lits c)] (.int .i64 w))
  (hU:w=0->az Tryz.prog 107 [.ps 1 (c9 es)] (.ps 5 (j5 us)))
  (hI:w=0->I c) (hII:∀d,I d->(S d).2.2.2=0->(S d).2.2.1=true->I (S d).1)
  (hS:∀d,I d->az Tryz.prog 109 [.ps 4 (syms g),.ps 5 (j5 us),.ps 5 (lits d)] (.dw [.ps 5 (lits (S d).1),.int .i64 (S d).2.1,.bool (S d).2.2.1,.int .i64 (S d).2.2.2])) :
  az Tryz.prog 68 [.ps 4 (syms g),.ps 1 (c9 es),.ps 5 (lits c)] (.dw [.ps 5 (lits (ie w S c).1),.ps 1 (ints (ie w S c).2.1),.int .i64 (ie w S c).2.2]):=by
 refine az.begin (rs:=[.tmp 6,.tmp 7,.tmp 8]) (m:=40) 1000 Tryz.func68 rfl rfl rfl (by decide) ⟨bI _,cY _,trivial,trivial⟩ ?_;simp only[go_sem];refine ak.bm [] hW (bL _ _ _) ⟨cS _,eh _,bI _,trivial⟩ ?_;simp only[bj,bA,bz,if_true];refine aC.g ?_;by_cases h0:w=0
 ·subst h0;have hF:ie 0 S c=eJ S 201 c []:=by simp[ie]
  rw[hF];obtain⟨Z,hZ⟩:∃Z,eJ S 201 c []=Z:=⟨_,rfl⟩;rw[hZ];simp only[go_sem];refine ak.bm [] (hU rfl) (bL _ _ _) ⟨eh _,trivial⟩ ?_;rw[eW];simp only[ite_self];refine aC.g ?_;simp only[go_sem];have lg:∀(d:List Li) (u:List Int),bH 5 (zt g us d u):=λd u=>by
   unfold zt;simp[go_sem,cS,bI,uR,cY]
  refine aC.ep (ι:={q:List Li×List Int // I q.1/\q.2.length<=200/\eJ S (201-q.2.length) q.1 q.2=Z}) 1000
   (λ_=>dV 43 [(5,.ptr 1 0),(6,.a8),(7,.a8),(8,.int .i64 0),(10,.ptr 2 0),(12,.fn 108 [] [.ptr 0 0,.ptr 3 0,.ptr 1 0,.ptr 2 0])])
   (λq=>zt g us q.1.1 q.1.2) (λq=>201-q.1.2.length) ⟨(c,[]),hI rfl,by simp,hZ⟩ [] ?_ (λ_=>by simp[zt]) ?_
  ·refine eL rfl ?_;unfold zt;simp only[go_sem,wy,pU,pC,cS,bI,uR,bT (cS _),bT (bI _),bT (uR _)]
  ·rintro ⟨⟨d,u⟩,rC,hu,hn⟩;simp only at rC hu hn;have zl:=Yv2 g us d u (S d) (by omega) (hS d rC);have RJ : 201-u.length=(200-u.length)+1:=by omega
   rw[RJ,eJ]at hn;obtain⟨z,hz⟩:∃z,S d=z:=⟨_,rfl⟩;have fA:=hII d rC;rw[hz]at hn zl fA;simp only[go_sem];refine zl.mono ?_;rintro r σ' ⟨rfl,rfl⟩;by_cases h1:z.2.2.2=0
   ·cases h2:z.2.2.1 with
    | true =>
     rw[if_neg (by simp[h1]),if_neg (by simp[h2])]at hn;rw[if_pos ⟨h1,rfl⟩];unfold Ss;rw[yV,qP (by simp),qQ (by simp),ja,h1];refine aC.g ?_;simp only[go_sem];by_cases h3 : 200<((u.length+1:Nat):Int)
     ·simp only[go_sem,h3];rw[if_pos (by omega)]at hn;subst hn;refine aC.g ?_;simp only[go_sem];exact⟨rfl,rfl⟩
     ·simp only[go_sem,h3];rw[if_neg (by omega)]at hn;have uI:(u++[z.2.1]).length=u.length+1:=by simp
      refine⟨⟨(z.1,u++[z.2.1]),fA h1 h2,by rw[uI];omega,by rw[uI,show 201-(u.length+1)=200-u.length by omega];exact hn⟩,[(4,6),(6,4)],eL rfl ?_,by simp only[uI];omega⟩;unfold zt;have lw:bG 0 (ints (u++[z.2.1])):=cY _;rw[yV]at lw;simp only
      rw[yV,qP (by simp),qQ (by simp),ja];simp only[go_sem,cS,bI,uR,bT (cS _),bT (bI _),bT (uR _),bT lw,iD (aj _) lw]
    |false =>
     rw[if_neg (by simp[h1]),if_pos h2]at hn;rw[if_neg (by simp),h1];subst hn;unfold zt;refine aC.g ?_;simp only[go_sem];refine aC.draw [] 5 5 mixed rfl rfl (by decide) ?_;simp only[go_sem,cM];refine aC.g ?_;simp only[go_sem];refine aC.g ?_;simp only[go_sem,nI]
   ·rw[if_pos h1]at hn;rw[if_neg (by simp[h1])];subst hn;unfold zt;refine aC.g ?_;simp only[go_sem,h1];refine aC.g ?_;simp only[go_sem,h1];exact⟨rfl,rfl⟩
 ·have hF:ie w S c=([],[],w):=by simp[ie,h0]
  rw[hF];simp only[go_sem,h0];exact⟨rfl,rfl⟩
end Go.Proofs
namespace Go.Proofs
open Go Go.dq
theorem G8 {P:Tm->Prop} (hP:∀t,P t->∀u∈t.args,P u):∀(p:List Int) (t v:Tm),P t->t.mr p=some v->P v
 |[],t,v,h,e=>by rw[Tm.mr]at e;cases e;exact h
 |n :: p,t,v,h,e=>by
  rw[Tm.mr]at e;split at e
  ·cases e
  split at e
  ·rename_i h2;exact G8 hP p _ v (hP t h _ (ay h2)) e
  ·cases e
theorem Yrl {P:Tm->Prop} (hP:∀t,P t->∀u∈t.args,P u):∀(s:List (Tm×Tm)) (m m':List Bd),iF s m=some m'->(∀x∈s,P x.2)->(∀b∈m,P b.t)->∀b∈m',P b.t:=by
 intro s m
 induction s,m using iF.induct with
 |case1 m =>
  intro m' h h1 h2;rw[iF]at h;cases h;exact h2
 |case2 x r m hv c hf he ih =>
  intro m' h h1 h2;rw[iF,if_pos hv,hf]at h;simp only[if_pos he]at h;exact ih m' h (λy hy=>h1 y (by simp[hy])) h2
 |case3 x r m hv c hf he =>
  intro m' h;rw[iF,if_pos hv,hf]at h;simp only[if_neg he]at h;cases h
 |case4 x r m hv hf ih =>
  intro m' h h1 h2;rw[iF,if_pos hv,hf]at h;simp only at h;refine ih m' h (λy hy=>h1 y (by simp[hy])) (λb hb=>?_);rcases a_.1 hb with hb|hb
  ·exact h2 b hb
  ·rw[aK.1 hb];exact h1 x (by simp)
 |case5 x r m hv hc =>
  intro m' h;rw[iF,if_neg hv,if_pos hc]at h;cases h
 |case6 x r m hv hc ih =>
  intro m' h h1 h2;rw[iF,if_neg hv,if_neg hc]at h;refine ih m' h (λy hy=>?_) h2;rcases a_.1 hy with hy|hy
  ·have hy:=du.1 hy;exact hP x.2 (h1 x (by simp)) _ (dC hy).2
  ·exact h1 y (by simp[hy])
theorem Yjo {P:Tm->Prop} {m:List Bd} (h:∀b∈m,P b.t) (ks:List Int):∀b∈jX m ks,P b.t:=λb hb=>by
 unfold jX at hb;obtain⟨v,_,hv⟩:=List.mem_filterMap.1 hb;cases hf:m.find? (λc=>c.v==v) with
 |none=>rw[hf]at hv;cases hv
 |some c =>
  rw[hf]at hv;simp only at hv;split at hv
  ·cases hv
  ·cases hv;exact h c (ck hf)
theorem Yet (m:List Bd)(ks:List Int):(jX m ks).length<=ks.length:=pQ _ _
theorem Y6 {P:Tm->Prop} (hP:∀t,P t->∀u∈t.args,P u) {a b:Tm} (hb:P b):∀x∈(iU [a] [b]).1,P x.t:=by
 unfold iU;split
 ·intro x hx;cases hx
 ·split
  ·intro x hx;cases hx
  ·rename_i m hm;exact Yjo (Yrl hP _ _ _ hm (λx hx=>by
    simp only[jx,List.zip_nil_right,pA,mU,aY,aK]at hx;subst hx;exact hb) (λb hb=>by cases hb)) _
def vj (t:Tm):Prop:=t.fit/\t.size<=400
theorem H6:∀t,vj t->∀u∈t.args,vj u:=λt h u hu=>by
 have h1:=sO hu;have h2:=n9 t;exact⟨yY (zH h.1) u hu,by have:=h.2;omega⟩
theorem Yeq (g:List Sy):∀t,kj g t->∀u∈t.args,kj g u:=λt h u hu=>Pg h hu
theorem Yuy:∀(s:List (Tm×Tm)) (m m':List Bd),iF s m=some m'->m'.length<=m.length+mM s:=by
 intro s m
 induction s,m using iF.induct with
 |case1 m =>
  intro m' h;rw[iF]at h;cases h;omega
 |case2 x r m hv c hf he ih =>
  intro m' h;rw[iF,if_pos hv,hf]at h;simp only[if_pos he]at h;have:=ih m' h;simp only[mM];omega
 |case3 x r m hv c hf he =>
  intro m' h;rw[iF,if_pos hv,hf]at h;simp only[if_neg he]at h;cases h
 |case4 x r m hv hf ih =>
  intro m' h;rw[iF,if_pos hv,hf]at h;simp only at h;have:=ih m' h;have hp:=BM x.1;simp only[mM,aA,aq,aF]at this ⊢;omega
 |case5 x r m hv hc =>
  intro m' h;rw[iF,if_neg hv,if_pos hc]at h;cases h
 |case6 x r m hv hc ih =>
  intro m' h;rw[iF,if_neg hv,if_neg hc]at h;have:=ih m' h;have h2:=Ib x.1 x.2 r;simp only[mM];omega
theorem Ypm (a b:Tm):(iU [a] [b]).1.length<=a.size:=by
 unfold iU;split
 ·exact aj _
 ·split
  ·exact aj _
  ·rename_i m hm;have h1:=Yuy _ _ _ hm;have h2:=Yet m (iB (m.map Bd.v));rw[GD,ao]at h2;simp only[jx,List.zip_nil_right,pA,mU,aY,mM,aF]at h1 ⊢;omega
mutual
theorem T7 {bs:List Bd} (hb:∀b∈bs,b.t.fit):∀t:Tm,t.fit->(t.sub bs).fit
 | .mk h ts,hf=>by
  rw[Tm.sub];split
  ·unfold r8;cases hq:bs.find? (λb=>b.v == -1-(Tm.mk h ts).head) with
   |some b=>exact hb b (ck hq)
   |none=>exact hf
  ·exact⟨hf.1,YX hb ts hf.2⟩
theorem YX {bs:List Bd}(hb:∀b∈bs,b.t.fit):∀ts:List Tm,Tm.fits ts->Tm.fits (Tm.uM bs ts)
 |[],_=>trivial
 |t :: ts,hf=>⟨T7 hb t hf.1,YX hb ts hf.2⟩
end
def mT (u:Un)(t:Tm):List Bd×Bool×Int:=iU [u.l] [t]
def aT (u:Un)(t:Tm):Tm×Int:=sy (mT u t).1 u.r
def kT (g:List Sy)(u:Un)(t:Tm):Int×Int:=(if fv g [t,(aT u t).1]=0 then eT g t (aT u t).1 else 0,fv g [t,(aT u t).1])
def qT (g:List Sy)(u:Un)(t:Tm)(c:List Li):Int×Int:=qv g [⟨false,t,(aT u t).1⟩] c
def km (g:List Sy)(c:List Li)(u:Un)(t:Tm):Tm×Bool:=pN g u t (mT u t) (aT u t) (kT g u t) (qT g u t c)
def TT (g:List Sy)(c:List Li)(u:Un)(s:mG):Tm×Bool:=km g c u s.t
theorem XO:gQ.fit:=by unfold gQ;exact⟨by unfold nj;omega,trivial⟩
def iP (g:List Sy)(t:Tm):Prop:=t.term g=0/\t.fit
theorem my {g:List Sy}{t:Tm}(h:iP g t):vj t:=⟨h.2,(qZ (n_ h.1).1).1⟩
theorem IB {g:List Sy}{t:Tm}(h:iP g t):kj g t:=K3 h.1 h.2
theorem Nb {g:List Sy}{u:Un}{t:Tm}(hr:iP g u.r)(ht:vj t):(aT u t).1.fit/\(aT u t).1.size<=160000:=by
 have hb:=Y6 H6 (a:=u.l) ht;unfold aT sy;split
 ·exact⟨XO,by unfold gQ;simp[Tm.size,Tm.bw]⟩
 split
 ·have hg:=(qZ (n_ hr.1).1).2.2;have h1:=(qZ (n_ hr.1).1).1;have h2:=OC (mT u t).1.reverse 400 (by omega) (λb oP=>(hb b (du.1 oP)).2) u.r hg;refine⟨T7 (λb oP=>(hb b (du.1 oP)).1) u.r hr.2,?_⟩;have h3:=aZ 400 h1;simp only at h2 ⊢;omega
 ·exact⟨XO,by unfold gQ;simp[Tm.size,Tm.bw]⟩
theorem Yg6 {g:List Sy}{u:Un}{t:Tm}{m:List Bd×Bool×Int}{s:Tm×Int}{k q:Int×Int}:(pN g u t m s k q).1=t\/(pN g u t m s k q).1=s.1:=by
 unfold pN
 repeat' split
 all_goals simp
theorem S7 {g:List Sy}{c:List Li}{u:Un}{t:Tm}(hr:iP g u.r)(ht:vj t):(km g c u t).1.fit/\(km g c u t).1.size<=160000:=by
 unfold km;rcases Yg6 (g:=g) (u:=u) (t:=t) (m:=mT u t) (s:=aT u t) (k:=kT g u t) (q:=qT g u t c) with h|h
 ·rw[h];exact⟨ht.1,by have:=ht.2;omega⟩
 ·rw[h];exact Nb hr ht
theorem Yo0 (g:List Sy) (FV:fH g=true) (u:Un) (t:Tm) (c:List Li) (hl:iP g u.l) (hr:iP g u.r) (ht:kj g t) (uv:vj t) (zS:c≠[]) (gM:c.length<=400000) (hc:∀l∈c,rF g l) :
  az Tryz.prog 141 [.ps 4 (syms g),u.aH,t.aH,.ps 5 (lits c)] (.dw [(km g c u t).1.aH,.bool (km g c u t).2]):=by
 obtain⟨hg,mA⟩:=UA FV;have xk:=my hl;have po:=my hr;have hb:=Y6 H6 (a:=u.l) uv;have ha:=Nb hr uv (u:=u);refine Ygf g u t c (mT u t) (aT u t) (kT g u t) (qT g u t c) (GY (IB hl).2.1) (GY ht.2.1) ?_ (λ_ _=>?_) (λ_ _ _=>?_) (λ_ _ _ _ _=>?_)
 ·exact Yf6 u.l t (by have:=xk.2;omega) (by have:=uv.2;omega) xk.1 uv.1
 ·have hlen:=Ypm u.l t;refine Yfe _ u.r (by have:=xk.2;unfold mT;omega) (λb h=>by have:=(hb b h).2;omega) (by have:=po.2;omega) po.1 ?_;have xJ:=(qZ (n_ hr.1).1).2.2;have h2:=OC (mT u t).1.reverse 400 (by omega) (λb oP=>(hb b (du.1 oP)).2) u.r xJ;have h3:=aZ 400 po.2;omega
 ·refine Zvp g hg (by omega) t (aT u t).1 (by have:=uv.2;omega) (by have:=ha.2;omega) (λh=>⟨ht,?_⟩);refine K3 (g:=g) ?_ ha.1;rw[fv]at h;split at h
  ·rw[fv]at h;split at h
   ·assumption
   ·rename_i h1 h2;exact absurd h h2
  ·rename_i h1;exact absurd h h1
 ·refine Zw5 g hg (by omega) _ c (by simp) zS (by simp) (by omega) (λx hx=>?_) hc;rw[aK.1 hx];exact WR ⟨by have:=uv.2;simp only;omega,by have:=ha.2;simp only;omega⟩ ⟨uv.1,ha.1⟩
theorem Vm {i:Nat}{rt:Bool}{t:Tm}{s:mG}(h:s∈cU i rt t):s.i=i/\s.rt=rt/\t.mr s.p=some s.t/\s.p.length<t.size:=by
 unfold cU at h;obtain⟨p,hp,rfl⟩:=cN.1 h;obtain⟨p',rfl,h1,v,h2,_⟩:=G3 t [] p hp;refine⟨rfl,rfl,?_,by simpa using h1⟩;simp only[aY,h2,bd]
theorem Gv:∀(c:List Li) (i:Nat) (s:mG),s∈cL c i->∃(j:Nat) (h:j<c.length),s.i=((i+j:Nat):Int)/\((c[j]).side s.rt).mr s.p=some s.t/\s.p.length<((c[j]).side s.rt).size
 |[],_,_,h=>by rw[cL]at h;cases h
 | l :: c,i,s,h=>by
  rw[cL]at h;rcases a_.1 h with h|h
  ·refine⟨0,by simp,?_⟩;unfold lj at h;rcases a_.1 h with h|h
   ·obtain⟨h1,h2,h3,h4⟩:=Vm h;simp only[d_,Li.side,h2];exact⟨h1,by simpa using h3,by simpa using h4⟩
   ·obtain⟨h1,h2,h3,h4⟩:=Vm h;simp only[d_,Li.side,h2];exact⟨h1,by simpa using h3,by simpa using h4⟩
  ·obtain⟨j,hj,h1,h2,h3⟩:=Gv c (i+1) s h;exact⟨j+1,by simpa using hj,by rw[h1];omega,by simpa using h2,by simpa using h3⟩
def iC (g:List Sy)(c:List Li):Prop:=aW g c=0/\∀l∈c,l.l.fit/\l.r.fit
theorem uy {g:List Sy} {c:List Li} (h:aW g c=0):fH g=true/\c.length<=32/\∀l∈c,l.check g=0:=by
 unfold aW at h;split at h
 ·cases h
 split at h
 ·cases h
 rename_i h1 h2;refine⟨by simpa using h1,by omega,?_⟩;have key:∀c:List Li,dH g c=0->∀l∈c,l.check g=0:=by
  intro c
  induction c with
  |nil=>intro _ l hl;cases hl
  | cons a c ih =>
   intro h l hl;rw[dH]at h;split at h
   ·rename_i h3;exact absurd h h3
   ·rename_i h3;rcases aU.1 hl with rfl|hl
    ·simpa using h3
    ·exact ih h l hl
 exact key c h
theorem sQ {g:List Sy}{c:List Li}(h:iC g c){l:Li}(hl:l∈c):iP g l.l/\iP g l.r:=by
 have h1:=DK ((uy h.1).2.2 l hl);have h2:=h.2 l hl;exact⟨⟨h1.1,h2.1⟩,h1.2,h2.2⟩
theorem H5 {g:List Sy}{c:List Li}(h:iC g c){l:Li}(hl:l∈c)(b:Bool):iP g (l.side b):=by
 unfold Li.side;split
 ·exact(sQ h hl).2
 ·exact(sQ h hl).1
theorem Yni {g:List Sy}{c:List Li}(h:iC g c):∀l∈c,rF g l:=λl hl=>by
 obtain⟨h1,h2⟩:=sQ h hl;have s1:=my h1;have s2:=my h2;exact WR ⟨by have:=s1.2;omega,by have:=s2.2;omega⟩ ⟨s1.1,s2.1⟩
theorem SF {u:Tm}(hu:u.fit):∀(ts:List Tm) (i:Nat),Tm.fits ts->Tm.fits (ts.set i u)
 |[],_,h=>h
 |t :: ts,0,h=>⟨hu,h.2⟩
 |t :: ts,i+1,h=>⟨h.1,SF hu ts i h.2⟩
theorem Wm (u:Tm):∀(ts:List Tm) (i:Nat) (h:i<ts.length),Tm.bw (ts.set i u)+(ts[i]).size=Tm.bw ts+u.size
 |t :: ts,0,_=>by simp only[cw,Tm.bw,d_];omega
 |t :: ts,i+1,h=>by simp only[cu,Tm.bw,df];have:=Wm u ts i (by simpa using h);omega
theorem T9:∀(p:List Int) (t u v:Tm),t.mr p=some v->t.fit->u.fit->(t.jy p u).fit/\(t.jy p u).size+v.size=t.size+u.size
 |[],t,u,v,h,ht,hu=>by rw[Tm.mr]at h;cases h;rw[Tm.jy];exact⟨hu,by omega⟩
 | n :: p,t,u,v,h,ht,hu=>by
  rw[Tm.mr]at h;split at h
  ·cases h
  split at h
  ·rename_i h1 h2;have hm:=ay h2;have hg:t.args.getD n.toNat gQ=t.args[n.toNat]:=by simp[List.getD,h2]
   obtain⟨a1,a2⟩:=T9 p _ u v h (yY (zH ht) _ hm) hu;rw[Tm.jy,hg];refine⟨⟨H4 ht,SF a1 _ _ (zH ht)⟩,?_⟩;have h3:=Wm ((t.args[n.toNat]).jy p u) t.args n.toNat h2;have h4:=n9 t;rw[Tm.size];omega
  ·cases h
theorem Yur {c:List Li} {i:Nat} {u:Un} (h:u∈vT c i):∃l:Li,[l]=c/\((u.l=l.l/\u.r=l.r)\/(u.l=l.r/\u.r=l.l)):=by
 unfold vT at h;split at h
 ·split at h
  ·cases h
  ·simp only[aU,dU,or_false]at h;rcases h with rfl|rfl
   ·exact⟨_,rfl,.inl ⟨rfl,rfl⟩⟩
   ·exact⟨_,rfl,.inr ⟨rfl,rfl⟩⟩
 ·cases h
theorem YR {u:Un}:∀(es:List (List Li)) (i:Nat),u∈ln es i->∃l:Li,[l]∈es/\((u.l=l.l/\u.r=l.r)\/(u.l=l.r/\u.r=l.l))
 |[],i,h=>by rw[ln]at h;cases h
 |c :: es,i,h=>by
  rw[ln]at h;rcases a_.1 h with h|h
  ·obtain⟨l,h1,h2⟩:=Yur h;exact⟨l,by simp[h1],h2⟩
  ·obtain⟨l,h1,h2⟩:=YR es (i+1) h;exact⟨l,ct _ h1,h2⟩
theorem Zxr {es:List (List Li)}{u:Un}(h:u∈db es):∃l:Li,[l]∈es/\((u.l=l.l/\u.r=l.r)\/(u.l=l.r/\u.r=l.l)):=by
 unfold db at h;exact YR es 0 (List.mem_filter.1 h).1
theorem Tb:∀(es:List (List Li)) (i:Nat),(ln es i).length<=2*es.length
 |[],_=>by rw[ln];exact ae _
 |c :: es,i=>by
  rw[ln,aA];have:=Ytl c i;have:=Tb es (i+1);simp only[aq];omega
theorem Zx3 (es:List (List Li)):(db es).length<=2*es.length:=by
 have:=Tb es 0;have h2:(db es).length<=(ln es 0).length:=List.length_filter_le _ _;omega
theorem DH {g:List Sy}:∀ {l:List (List Li)},cm g l=0->∀c∈l,aW g c=0
 |[],_,c,hc=>by cases hc
 | a :: l,h,c,hc=>by
  rw[cm]at h;split at h
  ·rename_i h1;exact absurd h h1
  ·rename_i h1;rcases aU.1 hc with rfl|hc
   ·simpa using h1
   ·exact DH h c hc
def p5 (c:List Li):Prop:=∀l∈c,l.l.fit/\l.r.fit
theorem Wi {g:List Sy}{es:List (List Li)}(hc:∀c∈es,aW g c=0)(hf:∀c∈es,p5 c){u:Un}(h:u∈db es):iP g u.l/\iP g u.r:=by
 obtain⟨l,h1,h2⟩:=Zxr h;have h3:=sQ (g:=g) (c:=[l]) ⟨hc _ h1,hf _ h1⟩ (aK.2 rfl);rcases h2 with⟨e1,e2⟩|⟨e1,e2⟩
 ·rw[e1,e2];exact h3
 ·rw[e1,e2];exact⟨h3.2,h3.1⟩
theorem Yuz {c:List Li}{s:mG}{i:Nat}(h:i<c.length)(hi:s.i=i)(u:Tm):ll c s u=c.set i (c[i].rK s.rt ((c[i].side s.rt).jy s.p u)):=by
 have:s.i.toNat=i:=by omega
 unfold ll;rw[this,ax h]
theorem Pc {g:List Sy} {c:List Li} (hc:iC g c) {s:mG} (hs:s∈cL c 0) {u:Tm} (hu:u.fit):p5 (ll c s u)/\∀l∈ll c s u,l.l.size<=400+u.size/\l.r.size<=400+u.size:=by
 obtain ⟨j,hj,h1,h2,h3⟩:=Gv c 0 s hs;rw[br]at h1;have hm:=ay hj;have uH:=H5 hc hm s.rt;obtain⟨p1,p2⟩:=T9 s.p _ u s.t h2 uH.2 hu;have MI:=(my uH).2;have oS:=BM s.t;rw[Yuz hj h1];have key:∀l∈c.set j (c[j].rK s.rt ((c[j].side s.rt).jy s.p u)),(l.l.fit/\l.r.fit)/\l.l.size<=400+u.size/\l.r.size<=400+u.size:=λl hl=>by
  rcases List.mem_or_eq_of_mem_set hl with hl|rfl
  ·obtain⟨a1,a2⟩:=sQ hc hl;have b1:=(my a1).2;have b2:=(my a2).2;exact⟨⟨a1.2,a2.2⟩,by omega,by omega⟩
  ·obtain⟨a1,a2⟩:=sQ hc hm;have b1:=(my a1).2;have b2:=(my a2).2;unfold Li.rK;split
   ·exact⟨⟨a1.2,p1⟩,by simp only;omega,by simp only;omega⟩
   ·exact⟨⟨p1,a2.2⟩,by simp only;omega,by simp only;omega⟩
 exact⟨λl hl=>(key l hl).1,λl hl=>(key l hl).2⟩
def e9 (g:List Sy)(us:List Un)(c:List Li):List Li×Int×Bool×Int:=lM g (TT g c) us c
theorem Ynf (g:List Sy) (us:List Un) (c:List Li) (uI:us.length<1000000) (hu:∀u∈us,iP g u.l/\iP g u.r) (hc:iC g c) :
  az Tryz.prog 109 [.ps 4 (syms g),.ps 5 (j5 us),.ps 5 (lits c)] (.dw [.ps 5 (lits (e9 g us c).1),.int .i64 (e9 g us c).2.1,.bool (e9 g us c).2.2.1,.int .i64 (e9 g us c).2.2.2]):=by
 obtain⟨FV,gM,_⟩:=uy hc.1;have Cb:∀s∈cL c 0,kj g s.t/\vj s.t/\c≠[]:=λs hs=>by
  obtain⟨j,hj,h1,h2,h3⟩:=Gv c 0 s hs;have uH:=H5 hc (ay hj) s.rt;exact⟨G8 (Yeq g) _ _ _ (IB uH) h2,G8 H6 _ _ _ (my uH) h2,by rintro rfl;simp at hj⟩
 have R5:∀u∈us,∀s∈cL c 0,(TT g c u s).1.fit/\(TT g c u s).1.size<=160000:=λu xn s hs=>S7 (hu u xn).2 (Cb s hs).2.1;refine Ylx g us c (TT g c) uI (by omega) (λl hl=>?_) (λu xn s hs=>?_) (λu xn s hs=>?_) (λu xn s hs _=>?_)
 ·obtain⟨a1,a2⟩:=sQ hc hl;exact⟨(my a1).2,(my a2).2⟩
 ·obtain⟨h1,h2,h3⟩:=Cb s hs;exact Yo0 g FV u s.t c (hu u xn).1 (hu u xn).2 h1 h2 h3 (by omega) (Yni hc)
 ·obtain⟨j,hj,h1,h2,h3⟩:=Gv c 0 s hs;have uH:=(my (H5 hc (ay hj) s.rt)).2;exact Yvd c s _ s.t j hj (by rw[h1];simp) h2 (by omega) (by omega) (by omega)
 ·obtain⟨h1,h2⟩:=R5 u xn s hs;have h3:=(Pc hc hs h1).2;exact HZ g _ (λi hi=>by have:=h3 _ (ay hi);omega)
theorem N_ {T:Un->mG->Tm×Bool} {s:mG} {x:Un×Tm}:∀ {us:List Un},fV T s us=some x->x.1∈us/\x.2=(T x.1 s).1/\(T x.1 s).2=true
 |[],h=>by rw[fV]at h;cases h
 |u :: us,h=>by
  rw[fV]at h;split at h
  ·rename_i h1;cases h;exact⟨by simp,rfl,h1⟩
  ·obtain⟨a1,a2⟩:=N_ h;exact⟨ct _ a1,a2⟩
theorem SL {g:List Sy} {us:List Un} {c:List Li} (hu:∀u∈us,iP g u.l/\iP g u.r) (hc:iC g c) (h0:(e9 g us c).2.2.2=0):iC g (e9 g us c).1:=by
 unfold e9 lM at h0 ⊢;rcases HO (TT g c) us (cL c 0) with⟨f1,_⟩|⟨k,hk,x,f1,f2,_⟩
 ·rw[f1];exact hc
 ·rw[f1]at h0 ⊢;simp only at h0 ⊢;split
  ·rename_i h1;obtain⟨m1,m2,_⟩:=N_ f2;have hs:=ay hk;obtain⟨j,hj,g1,g2,g3⟩:=Gv c 0 _ hs;have sV:=G8 H6 _ _ _ (my (H5 hc (ay hj) _)) g2;refine⟨h1,?_⟩;rw[m2];exact(Pc hc hs (S7 (c:=c) (hu _ m1).2 sV).1).1
  ·rename_i h1;rw[if_neg h1]at h0;exact absurd h0 h1
end Go.Proofs
namespace Go.Proofs
open Go Go.dq
def vl (g:List Sy)(es:List (List Li))(c:List Li):List Li×Int×Bool×Int:=if cm g (c :: es)≠0 then ([],0,false,cm g (c :: es)) else e9 g (db es) c
def cT (g:List Sy)(es:List (List Li))(c:List Li):List Li×List Int×Int:=ie (cm g (c :: es)) (e9 g (db es)) c
def qk (es:List (List Li))(c:List Li):Prop:=es.length<400000/\∀x∈c :: es,oY x/\p5 x
theorem Iz {g:List Sy}{es:List (List Li)}{c:List Li}(h:qk es c)(hw:cm g (c :: es)=0):iC g c/\(∀u∈db es,iP g u.l/\iP g u.r)/\∀x∈es,MR x:=by
 have hw:=DH hw;have h1:∀x∈es,iC g x:=λx hx=>⟨hw x (by simp[hx]),(h.2 x (by simp[hx])).2⟩;refine⟨⟨hw c (by simp),(h.2 c (by simp)).2⟩,λu hu=>Wi (g:=g) (λx hx=>(h1 x hx).1) (λx hx=>(h1 x hx).2) hu,λx hx l hl=>?_⟩;obtain⟨a1,a2⟩:=sQ (h1 x hx) hl;have b1:=my a1;have b2:=my a2;exact⟨⟨b1.1,by have:=b1.2;omega⟩,b2.1,by have:=b2.2;omega⟩
theorem Ymb (g:List Sy) (es:List (List Li)) (c:List Li) (h:qk es c) :
  az Tryz.prog 68 [.ps 4 (syms g),.ps 1 (c9 es),.ps 5 (lits c)] (.dw [.ps 5 (lits (cT g es c).1),.ps 1 (ints (cT g es c).2.1),.int .i64 (cT g es c).2.2]):=by
 have hlen:=Zx3 es;exact Yjg g es (db es) c (cm g (c :: es)) (e9 g (db es)) (λd=>cm g (c :: es)=0/\iC g d)
  (Ykh g es c (λx hx=>(h.2 x hx).1) (by have:=h.1;omega)) (λh0=>Yfo es (by have:=h.1;omega) (Iz h h0).2.2) (λh0=>⟨h0,(Iz h h0).1⟩)
  (λd hd e _=>⟨hd.1,SL (Iz h hd.1).2.1 hd.2 e⟩) (λd hd=>Ynf g (db es) d (by have:=h.1;omega) (Iz h hd.1).2.1 hd.2)
theorem Qa (n:Int)(hn : -1000000<=n/\n<=1000000):az Tryz.prog 42 [.int .i64 n] (Tm.mk (-1-n) []).aH:=by
 refine az.begin (rs:=[.cell 2 70]) (m:=5) 1000 Tryz.func42 rfl rfl rfl (by decide) (cV _) ?_;have hw:IntKind.i64.wrap (-1-n) = -1-n:=dt (by omega);simp only[go_sem,hw,cq];exact⟨rfl,rfl⟩
theorem L4 (n:Int)(ts:List Tm):az Tryz.prog 43 [.int .i64 n,.ps 2 (ts.map Tm.aH)] (Tm.mk n ts).aH:=by
 refine az.begin (rs:=[.cell 4 70]) (m:=6) 1000 Tryz.func43 rfl rfl rfl (by decide) (cV _) ?_;simp only[go_sem,cq];exact⟨rfl,bL _ _ _⟩
def yb (a b:Int):Int:=if a<b then -1 else if b<a then 1 else 0
theorem Qk {a b:Int}(h:a≠b):yb a b≠0:=by unfold yb;split<;>(try split)<;>omega
theorem Om (a b:Int):az Tryz.prog 155 [.int .i64 a,.int .i64 b] (.int .i64 (yb a b)):=by
 refine az.begin (rs:=[.tmp 4]) (m:=9) 1000 Tryz.func155 rfl rfl rfl (by decide) trivial ?_;unfold yb;by_cases h1:a<b
 ·simp only[go_sem,h1]
 ·by_cases h2:b<a
  ·simp only[go_sem,h1,h2]
  ·simp only[go_sem,h1,h2]
mutual
def Tm.cmp:Tm->Tm->Int
 |.mk h ts,u=>if ((Tm.mk h ts).size:Int)≠u.size then yb (Tm.mk h ts).size u.size else if h≠u.head then yb h u.head else if (ts.length:Int)≠u.args.length then yb ts.length u.args.length else Tm.nL ts u.args
def Tm.nL:List Tm->List Tm->Int
 |[],_=>0
 |_ :: _,[]=>0
 |t :: ts,u :: us=>if t.cmp u≠0 then t.cmp u else Tm.nL ts us
end
mutual
theorem UQ:∀t u:Tm,t.cmp u=0↔t=u
 | .mk h ts,.mk k us=>by
  rw[Tm.cmp];by_cases h1:((Tm.mk h ts).size:Int)=(Tm.mk k us).size
  ·rw [if_neg (by simpa using h1)];by_cases h2:h=k
   ·subst h2;rw[if_neg (by simp[Tm.head])];by_cases h3:(ts.length:Int)=us.length
    ·rw[if_neg (by simpa[Tm.args] using h3)];rw[show(Tm.mk h us).args=us from rfl,T2 ts us (by omega)]
     simp
    ·rw[if_pos (by simpa[Tm.args] using h3)];refine⟨λe=>absurd e (Qk (by simpa[Tm.args] using h3)),λe=>?_⟩;cases e;exact absurd rfl h3
   ·rw[if_pos (by simpa[Tm.head] using h2)];refine⟨λe=>absurd e (Qk (by simpa[Tm.head] using h2)),λe=>?_⟩;cases e;exact absurd rfl h2
  ·rw[if_pos (by simpa using h1)];refine⟨λe=>absurd e (Qk h1),λe=>?_⟩;rw[e]at h1;exact absurd rfl h1
theorem T2:∀ts us:List Tm,ts.length=us.length->(Tm.nL ts us=0↔ts=us)
 |[],[],_=>by simp[Tm.nL]
 |t :: ts,u :: us,hl=>by
  rw[Tm.nL];have h1:=UQ t u;have h2:=T2 ts us (by simpa using hl);by_cases h3:t.cmp u=0
  ·rw[if_neg (by simp[h3]),h2,h1.1 h3];simp
  ·rw[if_pos h3];refine⟨λe=>absurd e h3,λe=>?_⟩;cases e;exact absurd (h1.2 rfl) h3
end
theorem Zw8 (t:Tm):∀u:Tm,t.size<2 ^ 62->u.size<2 ^ 62->az Tryz.prog 129 [t.aH,u.aH] (.int .i64 (t.cmp u)):=by
 induction t using Tm.fF with
 |h h ts ih =>
 intro u hs hu;obtain⟨k,us,rfl⟩:∃k us,u=Tm.mk k us:=⟨u.head,u.args,by cases u;rfl⟩;have gE:=P9 (Tm.mk h ts) hs;have Hv:=P9 (Tm.mk k us) hu;have bx:=mH ts;have Mw:=mH us;have eM:(Tm.mk h ts).size=1+Tm.bw ts:=rfl;have JV:(Tm.mk k us).size=1+Tm.bw us:=rfl;refine az.begin (rs:=[.tmp 4]) (m:=60) 1000 Tryz.func129 rfl rfl rfl (by decide) trivial ?_;rw[Tm.cmp,show(Tm.mk k us).args=us from rfl,show(Tm.mk k us).head=k from rfl]
 generalize (Tm.mk h ts).size=n1 at *
 generalize (Tm.mk k us).size=n2 at *
 simp only[go_sem,dO,Tm.head,Tm.args];refine aC.draw [] 2 2 mixed rfl rfl (by decide) ?_;simp only[go_sem,cM];refine jS (gE) (by(try simp only[cq]);exact bL _ _ _) (by simp[go_sem,cV,bC]) ?_
 simp only[go_sem];refine jS (Hv) (by(try simp only[cq]);exact bL _ _ _) (by simp[go_sem,cV,bC]) ?_
 simp only[go_sem];refine aC.g ?_;by_cases c1:(n1:Int)=n2
 ·rw [if_neg (by simpa using c1)];by_cases c2:h=k
  ·rw [if_neg (λe=>e c2)];by_cases c3:(ts.length:Int)=us.length
   ·rw [if_neg (λe=>e c3)];obtain⟨Z,hZ⟩:∃Z,Tm.nL ts us=Z:=⟨_,rfl⟩;rw[hZ];simp only[go_sem,c1,c2,c3,Tm.head,Tm.args];refine aC.cA (ι:={i:Nat // i<=ts.length/\Tm.nL (ts.drop i) (us.drop i)=Z}) 1000 (λq=>dV 62 [(2,.ptr 0 0),(3,.ptr 1 0),(4,.int .i64 0),(5,.int .i64 q.1)])
     (λ_=>[some (.var [.int .i64 h,.ps 2 (ts.map Tm.aH)]),some (.var [.int .i64 k,.ps 2 (us.map Tm.aH)])]) (λq=>ts.length-q.1) ⟨0,by omega,by simpa using hZ⟩ ?_ (λ_=>by simp) ?_
    ·simp only[go_sem,bC,c2]
    ·rintro⟨i,hi,aD⟩;by_cases bx:(i:Int)<ts.length
     ·have aL:i<ts.length:=by omega
      have nQ:i<us.length:=by omega
      have oR:(i:Int)<us.length:=by omega
      have hw:=W1' i (by omega)
      have g1:(ts.map Tm.aH).getD i .undef=ts[i].aH:=jT aL;have g2:(us.map Tm.aH).getD i .undef=us[i].aH:=jT nQ;have z1:=sn ts i aL;have z2:=sn us i nQ;have hc:=ih i aL us[i] (by omega) (by omega);rw[ai aL,ai nQ,Tm.nL]at aD;generalize ts[i]=x at *
      generalize us[i]=y at *
      simp only[go_sem,bx];refine aC.draw [] 2 2 mixed rfl rfl (by decide) ?_;simp only[go_sem,cM,g1,g2,dO,bx,oR]
      (repeat((with_reducible refine And.intro ?_ ?_);·omega))
      refine jS (hc) (by(try simp only[cq]);exact bL _ _ _) (by simp[go_sem,cV,bC]) ?_
      simp only[go_sem];refine aC.g ?_;by_cases c4:x.cmp y=0
      ·rw[if_neg (by simp[c4])]at aD;simp only[go_sem,c4,hw];refine⟨⟨i+1,by omega,aD⟩,?_,by simp only;omega⟩;simp only[go_sem,bC]
      ·rw[if_pos c4]at aD;simp only[go_sem,c4];refine aC.g ?_;simp only[go_sem,aD]
     ·have dm:i=ts.length:=by omega
      subst dm;rw[aJ,Tm.nL]at aD;simp only[go_sem,bx];refine aC.g ?_;simp only[go_sem,aD]
   ·rw[if_pos c3];simp only[go_sem,c1,c2,c3,Tm.head,Tm.args];refine ak.bm [] (Om ts.length us.length) (by(try simp only[cq]);exact bL _ _ _) (by simp[go_sem,cV,bC]) ?_;simp only[bj,bA,bz,if_true];refine aC.g ?_
    simp only[go_sem]
  ·rw[if_pos c2];simp only[go_sem,c1,c2,Tm.head,Tm.args];refine ak.bm [] (Om h k) (by(try simp only[cq]);exact bL _ _ _) (by simp[go_sem,cV,bC]) ?_;simp only[bj,bA,bz,if_true];refine aC.g ?_
   simp only[go_sem]
 ·rw[if_pos c1];simp only[go_sem,c1];refine aC.draw [] 2 2 mixed rfl rfl (by decide) ?_;simp only[go_sem,cM];refine jS (gE) (by(try simp only[cq]);exact bL _ _ _) (by simp[go_sem,cV,bC]) ?_
  simp only[go_sem];refine jS (Hv) (by(try simp only[cq]);exact bL _ _ _) (by simp[go_sem,cV,bC]) ?_
  simp only[go_sem];refine jS (Om n1 n2) (by(try simp only[cq]);exact bL _ _ _) (by simp[go_sem,cV,bC]) ?_
  simp only[go_sem];refine aC.g ?_;simp only[go_sem]
theorem BP (t u:Tm)(ht:t.size<2 ^ 62)(hu:u.size<2 ^ 62):az Tryz.prog 88 [t.aH,u.aH] (.bool (decide (t=u))):=by
 have hc:=Zw8 t u ht hu;have he:=UQ t u;refine az.begin (rs:=[.tmp 4]) (m:=7) 1000 Tryz.func88 rfl rfl rfl (by decide) trivial ?_;simp only[go_sem,dO];refine ak.bm [] (hc) (by(try simp only[cq]);exact bL _ _ _) (by simp[go_sem,cV,bC]) ?_;simp only[bj,bA,bz,if_true];refine aC.g ?_
 by_cases h:t=u
 ·subst h;simp only[go_sem,he.2 rfl,decide_true]
 ·simp only[go_sem,show ¬t.cmp u=0 from λe=>h (he.1 e),h,decide_false]
def Li.Fe (a b:Li):Bool:=decide (a.neg=b.neg)&&(decide (a.l=b.l)&&decide (a.r=b.r))
theorem Yys {a b:Li}:a.Fe b=true↔a=b:=by
 cases a;cases b;simp[Li.Fe]
theorem Ybk (a b:Li) (ha:a.l.size<2 ^ 62/\a.r.size<2 ^ 62) (hb:b.l.size<2 ^ 62/\b.r.size<2 ^ 62):az Tryz.prog 53 [a.aH,b.aH] (.bool (a.Fe b)):=by
 have h1:=BP a.l b.l ha.1 hb.1;have h2:=BP a.r b.r ha.2 hb.2;refine az.begin (rs:=[.tmp 4]) (m:=22) 1000 Tryz.func53 rfl rfl rfl (by decide) trivial ?_;unfold Li.Fe;simp only[go_sem,gf];by_cases c1:a.neg=b.neg
 ·have Qr:(a.neg==b.neg)=true:=by simp[c1]
  simp only[go_sem,Qr,c1,decide_true,bO];refine ak.bm [] (h1) (by(try simp only[cq]);exact bL _ _ _) (by simp[go_sem,cV,bC]) ?_;simp only[bj,bA,bz,if_true];refine aC.g ?_
  by_cases c2:a.l=b.l
  ·simp only[go_sem,c2,decide_true,bO];refine ak.bm [] (h2) (by(try simp only[cq]);exact bL _ _ _) (by simp[go_sem,cV,bC]) ?_;simp only[bj,bA,bz,if_true];refine aC.g ?_
   simp only[go_sem]
  ·simp only[go_sem,c2,decide_false,bU]
 ·have Qr:(a.neg==b.neg)=false:=by simp[c1]
  simp only[go_sem,Qr,c1,decide_false,bU]
def rq:List Li->List Li->Bool
 |[],[]=>true
 |a :: c,b :: d=>a.Fe b&&rq c d
 |_,_=>false
theorem LH:∀c d:List Li,rq c d=true↔c=d
 |[],[]=>by simp[rq]
 |[],_ :: _=>by simp[rq]
 |_ :: _,[]=>by simp[rq]
 |a :: c,b :: d=>by simp[rq,Yys,LH c d]
def zy (c:List Li):Prop:=∀l∈c,l.l.size<2 ^ 62/\l.r.size<2 ^ 62
theorem Yi0 {a b:List Li}(h:a.length=b.length){i:Nat}(h1:i<a.length)(h2:i<b.length):rq (a.drop i) (b.drop i)=(a[i].Fe b[i]&&rq (a.drop (i+1)) (b.drop (i+1))):=by
 rw[ai h1,ai h2,rq]
theorem V7 (a b:List Li) (ha:zy a) (hb:zy b) (hl:a.length<2 ^ 62):az Tryz.prog 19 [.ps 5 (lits a),.ps 5 (lits b)] (.bool (rq a b)):=by
 refine az.begin (rs:=[.tmp 4]) (m:=25) 1000 Tryz.func19 rfl rfl rfl (by decide) trivial ?_;obtain⟨Z,hZ⟩:∃Z,rq a b=Z:=⟨_,rfl⟩;rw[hZ];by_cases c1:(a.length:Int)=b.length
 ·simp only[go_sem,dA,c1];refine aC.cA (ι:={i:Nat // i<=a.length/\rq (a.drop i) (b.drop i)=Z}) 1000 (λq=>dV 27 [(0,.ps 5 (lits a)),(1,.ps 5 (lits b)),(4,.bool false),(5,.int .i64 q.1)])
   (λ_=>[]) (λq=>a.length-q.1) ⟨0,by simpa using hZ⟩ ?_ (λ_=>aj _) ?_
  ·simp only[go_sem,bI]
  ·rintro ⟨i,hi,aD⟩;by_cases bx:(i:Int)<a.length
   ·have aL:i<a.length:=by omega
    have FM:i<b.length:=by omega
    have JC:(i:Int)<b.length:=by omega
    have hw:=W1' i (by omega)
    have g1:=qs aL;have g2:=qs FM;have hc:=Ybk a[i] b[i] (ha _ (ay aL)) (hb _ (ay FM));rw[Yi0 (by omega) aL FM]at aD;generalize a[i]=x at *
    generalize b[i]=y at *
    simp only[go_sem,dA,bx];refine aC.draw [] 0 0 mixed rfl rfl (by decide) ?_;simp only[go_sem,cM,g1,g2,gf,bx,JC,dA]
    (repeat((with_reducible refine And.intro ?_ ?_);·omega))
    refine jS hc (bL _ _ _) ⟨jU _,jU _,trivial⟩ ?_;simp only[go_sem];refine aC.g ?_;cases c4:x.Fe y with
    |true =>
     rw[c4,bO]at aD;simp only[go_sem,hw];refine⟨⟨i+1,by omega,aD⟩,?_,by simp only;omega⟩;simp only[go_sem,bI]
    |false =>
     rw[c4,bU]at aD;simp only[go_sem];refine aC.g ?_;simp only[go_sem,aD]
   ·have dm:i=a.length:=by omega
    subst dm;have:b.drop a.length=[]:=dY (by omega);rw[aJ,this,rq]at aD;subst aD;simp only[go_sem,dA,bx];refine aC.g ?_;simp only[go_sem]
 ·have:Z=false:=by
   rw[<-hZ,<-dB,LH];rintro rfl;exact c1 rfl
  rw[this];simp only[go_sem,dA,c1]
def pY (m:Int):List Tm->Int->Int
 |[],n=>n
 |t :: ts,n=>if n<=m then pY m ts (n+t.uS m) else n
theorem WB {m:Int} (hm : 0<=m):∀(ts:List Tm) (n:Int),0<=n->n<=2*m+1->0<=pY m ts n/\(pY m ts n<=m->pY m ts n=n+Tm.bw ts)
 |[],n,h,_=>⟨by simp[pY,h],λ_=>by simp[pY,Tm.bw]⟩
 | t :: ts,n,h,h2=>by
  have hb:=EK t m hm;simp only[pY];split
  ·obtain ⟨h3,h4⟩:=WB hm ts (n+t.uS m) (by omega) (by omega);refine⟨h3,λh5=>?_⟩;have h6:=h4 h5;have h7:=OQ t m hm (by
    have:(0:Int)<=Tm.bw ts:=by omega
    omega)
   simp only[Tm.bw];omega
  ·exact⟨h,λh5=>by omega⟩
def rr (c:List Li):Bool:=decide (pY 80 (cH c) 0<=80)&&decide (c.length<=8)
theorem Xp (c:List Li) (hc:c.length<=2600000000000):az Tryz.prog 23 [.ps 5 (lits c)] (.bool (rr c)):=by
 refine az.begin (rs:=[.tmp 2]) (m:=31) 1000 Tryz.func23 rfl rfl rfl (by decide) trivial ?_;simp only[go_sem];refine ak.bm [] (HV c hc) (bL _ _ _) ⟨bI _,trivial⟩ ?_;rw[eW];simp only[ite_self];refine aC.g ?_;have u0:=EM c;have hF:rr c=(decide (pY 80 (cH c) 0<=80)&&decide (c.length<=8)):=rfl;rw[hF];generalize cH c=ts at *
 simp only[go_sem];refine aC.cA (ι:={p:Nat×Int // p.1<=ts.length/\0<=p.2/\p.2<=161/\pY 80 (ts.drop p.1) p.2=pY 80 ts 0}) 1000 (λp=>dV 32 [(0,.ps 5 (lits c)),(2,.bool false),(3,.int .i64 p.1.2),(4,.ps 2 (ts.map Tm.aH)),(5,.int .i64 p.1.1)]) (λ_=>[]) (λp=>ts.length-p.1.1) ⟨(0,0),by simp⟩ ?_ (λ_=>aj _) ?_
 ·simp only[go_sem,bC,bI]
 ·rintro ⟨⟨i,n⟩,hi,h1,h2,h3⟩;simp only at hi h1 h2 h3;by_cases bx:(i:Int)<ts.length
  ·have aL:i<ts.length:=by omega
   by_cases hn:n<=80
   ·simp only[go_sem,ao,bx,hn,jT aL,dO];refine⟨by omega,?_⟩;refine ak.bm [] (Tl ts[i] 80 (by omega) (by omega)) (by(try simp only[cq]);exact bL _ _ _) (by simp[go_sem,cV,bC]) ?_;simp only[bj,bA,bz,if_true];refine aC.g ?_
    simp only[go_sem];have hb:=EK ts[i] 80 (by omega);refine⟨⟨(i+1,n+ts[i].uS 80),aL,by simp only;omega,by simp only;omega,?_⟩,?_,by simp only;omega⟩
    ·simp only
     rw[<-h3,ai aL,pY,if_pos hn]
    ·simp only[go_sem,bC,bI];rw[dt (by omega),dt (by omega)];simp
   ·simp only[go_sem,ao,bx,hn];refine aC.g ?_;have:pY 80 (ts.drop i) n=n:=by cases ts.drop i<;>simp[pY,hn]
    rw[<-h3,this];simp only[go_sem,hn,decide_false,bU]
  ·simp only[go_sem,ao,bx];refine aC.g ?_;have:i=ts.length:=by omega
   subst this;rw[<-h3,aJ,pY];by_cases hn:n<=80
   ·simp only[go_sem,hn,decide_true,bO,dA];congr 1;simp;omega
   ·simp only[go_sem,hn,decide_false,bU]
def mB:List (List Li)->Int->Bool×Int
 |[],n=>(true,n)
 |c :: es,n=>if jG c then mB es (n+c.length) else (false,n)
def qw (es:List (List Li)):Bool:=decide (es.length<=8)&&((mB es 0).1&&decide ((mB es 0).2<=40))
theorem Yee (es:List (List Li)):az Tryz.prog 25 [.ps 1 (c9 es)] (.bool (qw es)):=by
 refine az.begin (rs:=[.tmp 2]) (m:=35) 1000 Tryz.func25 rfl rfl rfl (by decide) trivial ?_;simp only[go_sem];by_cases h8:(es.length:Int)<=8
 ·have h8':es.length<=8:=by omega
  refine aC.cA (ι:={p:Nat×Int // p.1<=es.length/\0<=p.2/\p.2<=40*p.1/\mB (es.drop p.1) p.2=mB es 0}) 1000 (λp=>dV 36 [(0,.ps 1 (c9 es)),(2,.bool false),(3,.int .i64 p.1.2),(4,.int .i64 p.1.1)]) (λ_=>[]) (λp=>es.length-p.1.1) ⟨(0,0),by simp⟩ ?_ (λ_=>aj _) ?_
  ·simp only[go_sem,eh]
  ·rintro ⟨⟨i,n⟩,hi,h1,h2,h3⟩;simp only at hi h1 h2 h3;by_cases bx:(i:Int)<es.length
   ·have aL:i<es.length:=by omega
    have hw:=W1' i (by omega)
    have g1:=yn aL;rw[ai aL,mB]at h3;generalize es[i]=c at *
    simp only[go_sem,lP,bx,h8,g1];refine⟨by omega,?_⟩;refine ak.bm [] (WT c) (bL _ _ _) (by simp[go_sem,bI]) ?_;simp only[bj,bA,bz,if_true];refine aC.g ?_;cases hf:jG c with
    | true =>
     rw[hf,if_pos rfl]at h3;have gM:c.length<=40:=by
      unfold jG at hf;simp only[aG,decide_eq_true_eq]at hf;exact hf.1
     simp only[go_sem,g1,dA,lP,bx,h8]
     (repeat((with_reducible refine And.intro ?_ ?_);·omega))
     refine⟨⟨(i+1,n+c.length),aL,by simp only;omega,by simp only;omega,h3⟩,?_,by simp only;omega⟩;simp only[go_sem,eh,hw];rw[dt (by omega)]
    |false =>
     rw[hf,if_neg (by simp)]at h3;have hF:qw es=false:=by unfold qw;rw[<-h3];simp
     simp only[go_sem];refine aC.g ?_;simp only[go_sem,hF]
   ·simp only[go_sem,lP,bx];refine aC.g ?_;have:i=es.length:=by omega
    subst this;rw[aJ,mB]at h3;unfold qw;rw[<-h3];simp only[go_sem,lP,h8,h8',decide_true,bO]
 ·refine aC.cA (ι:=Unit) 1000 (λp=>dV 36 [(0,.ps 1 (c9 es)),(2,.bool false),(3,.int .i64 0),(4,.int .i64 0)]) (λ_=>[]) (λp=>0) () ?_ (λ_=>aj _) ?_
  ·simp only[go_sem,eh]
  ·rintro⟨⟩;have bx:(0:Int)<es.length:=by omega
   have hF:qw es=false:=by
    unfold qw;rw[show decide (es.length<=8)=false from by simp;omega]
    rfl
   simp only[go_sem,lP,bx,h8];refine aC.g ?_;simp only[go_sem,lP,h8,hF]
def uN:List Sy:=[⟨⟨#[36,116,114,117,101]⟩,0,1,true⟩,⟨⟨#[97]⟩,0,1,false⟩,⟨⟨#[102]⟩,1,1,false⟩,⟨⟨#[112]⟩,1,1,true⟩]
def iX:Tm:=.mk (-1) []
def jr:Tm:=.mk 1 []
def py:List (List Li):=[[⟨false,.mk 2 [iX],iX⟩]]
def ju (t:Tm):List Li:=[⟨false,.mk 3 [t],.mk 0 []⟩]
def jt (t:Tm):Tm:=.mk 2 [t]
theorem Yn4 (t:Tm):(jt t).aH=.agg [.int .i64 2,.ps 2 [.agg [.int .i64 t.head,.ps 2 (t.args.map Tm.aH)]]]:=by
 rw[jt,cq,<-cq t];rfl
theorem BL (t:Tm):bj (jt t).aH=false:=by rw[Yn4];rfl
theorem Ij (t:Tm):az Tryz.prog 43 [.int .i64 2,.ps 2 [t.aH]] (jt t).aH:=L4 2 [t]
@[go_sem]theorem Ywv (t:Tm):(c_ t.aH=true)=True:=eq_true (by rw[cq];rfl)
theorem TW (l:Li) (h1:l.l.size<1000/\l.r.size<1000) (h2:l.l.fit/\l.r.fit):oY [l]/\p5 [l]:=by
 refine⟨λi h=>?_,λx hx=>?_⟩
 ·have:i=0:=by simpa using h
  subst this;simp only[d_];omega
 ·rw[aK.1 hx];exact h2
theorem Iu:iX.fit/\jr.fit/\(jt iX).fit/\(jt (jt jr)).fit/\∀t:Tm,t.fit->(Tm.mk 3 [t]).fit:=by
 refine⟨?_,?_,?_,?_,λt h=>?_⟩<;>simp[iX,jr,jt,Tm.fit,Tm.fits,nj];exact h
theorem Ua:∀x∈py,oY x/\p5 x:=λx hx=>by
 have:x=[⟨false,.mk 2 [iX],iX⟩]:=by simpa[py] using hx
 subst this;exact TW _ (by decide) ⟨Iu.2.2.1,Iu.1⟩
theorem PO (t:Tm)(h:t.size<100)(hf:t.fit):oY (ju t)/\p5 (ju t):=TW _ ⟨by simp[Tm.size,Tm.bw];omega,by simp[Tm.size,Tm.bw]⟩ ⟨Iu.2.2.2.2 t hf,by simp[Tm.fit,Tm.fits,nj]⟩
theorem Yvv (t:Tm)(h:t.size<100)(hf:t.fit):qk py (ju t):=⟨by decide,λx hx=>by
 rcases aU.1 hx with rfl|hx
 ·exact PO t h hf
 ·exact Ua x hx⟩
end Go.Proofs
namespace Go.Proofs
open Go Go.dq
theorem J7 {l:List ah}(h:l.length=2):∃a b,l=[a,b]:=by
 rcases l with _|⟨a,_|⟨b,_|⟨c,l⟩⟩⟩<;>first|exact⟨_,_,rfl⟩|simp at h
theorem Sn {l:List ah}(h:l.length=3):∃a b c,l=[a,b,c]:=by
 rcases l with _|⟨a,l⟩
 ·simp at h
 ·obtain⟨b,c,rfl⟩:=J7 (l:=l) (by simpa using h);exact⟨_,_,_,rfl⟩
theorem J8 {l:List ah}(h:l.length=4):∃a b c d,l=[a,b,c,d]:=by
 rcases l with _|⟨a,l⟩
 ·simp at h
 ·obtain⟨b,c,d,rfl⟩:=Sn (l:=l) (by simpa using h);exact⟨_,_,_,_,rfl⟩
theorem Sq {l:List ah}(h:l.length=5):∃a b c d e,l=[a,b,c,d,e]:=by
 rcases l with _|⟨a,l⟩
 ·simp at h
 ·obtain⟨b,c,d,e,rfl⟩:=J8 (l:=l) (by simpa using h);exact⟨_,_,_,_,_,rfl⟩
theorem Tr:∀ {ts:List Tm},(∀t∈ts,t.fit)->Tm.fits ts
 |[],_=>trivial
 |t :: ts,h=>⟨h t List.mem_cons_self,Tr λx hx=>h x (ct _ hx)⟩
theorem Ytc (t:Tm):c_ t.aH=true:=by rw[cq];rfl
theorem Uf:∀(n:Nat) (cs:List ah),n8 Tryz.prog n 70 cs->∃t:Tm,cs=t.aH.cells/\t.fit:=by
 intro n
 induction n using Nat.strongRecOn with
 |_ n ih =>
 intro cs h;obtain⟨m,rfl,h1,h2⟩:=Pv (L:=[(3,0,1),(68,1,1)]) (N:=2) (by kernel_rfl) (by kernel_rfl) h;obtain⟨i,e1,hi⟩:=P3 (by kernel_rfl) (h2 (3,0,1) (by simp));obtain⟨m',rfl,es,e2,_,h4⟩:=Pz (e:=70) (sz:=2) (ag:=true) (by kernel_rfl) (h2 (68,1,1) (by simp));obtain⟨ts,rfl,h5⟩:=Gs (f:=Tm.aH) (p:=Tm.fit) es λx hx=>by
  obtain⟨g1,g2⟩:=h4 x hx;obtain⟨t,g3,g4⟩:=ih m' (by omega) _ g2;exact⟨t,KY g1 (Ytc t) g3,g4⟩
 obtain⟨a,b,rfl⟩:=J7 h1;simp at e1 e2;subst e1 e2;exact⟨.mk i ts,by rw[dO];rfl,hi,Tr h5⟩
theorem X5 {a:ah}{t e:TypeId}{sz:Nat}{ag:Bool}(hs:pf Tryz.prog t=some (e,sz,ag))(ha:jV Tryz.prog t=false)(h:Co Tryz.prog t a):∃m es,a=.ps sz es/\es.length<=maxLen/\∀x∈es,c_ x=ag/\n8 Tryz.prog m e x.cells:=by
 obtain⟨h1,n,h2⟩:=h;obtain⟨m,_,es,h3,h4,h5⟩:=Pz hs h2;exact⟨m,es,NY (h1.trans ha) h3,h4,h5⟩
theorem Yri (n:Nat)(cs:List ah)(h:n8 Tryz.prog n 79 cs):∃s:Sy,cs=s.aH.cells/\True:=by
 obtain⟨m,rfl,h1,h2⟩:=Pv (L:=[(9,0,1),(3,1,1),(3,2,1),(4,3,1)]) (N:=4) (by kernel_rfl) (by kernel_rfl) h;obtain⟨s,e1,_⟩:=Yu5 (by kernel_rfl) (h2 (9,0,1) (by simp));obtain⟨i,e2,_⟩:=P3 (by kernel_rfl) (h2 (3,1,1) (by simp));obtain⟨j,e3,_⟩:=P3 (by kernel_rfl) (h2 (3,2,1) (by simp));obtain⟨b,e4⟩:=Y2 (by kernel_rfl) (h2 (4,3,1) (by simp));obtain⟨x1,x2,x3,x4,rfl⟩:=J8 h1;simp at e1 e2 e3 e4;subst e1 e2 e3 e4;exact⟨⟨s,i,j,b⟩,rfl,trivial⟩
theorem Ymm {a:ah} (h:Co Tryz.prog 22 a):∃g:List Sy,a=.ps 4 (syms g):=by
 obtain⟨m,es,rfl,_,h5⟩:=X5 (e:=79) (sz:=4) (ag:=true) (by kernel_rfl) (by kernel_rfl) h;obtain⟨g,rfl,_⟩:=Gs (f:=Sy.aH) (p:=λ_=>True) es λx hx=>by
  obtain⟨g1,g2⟩:=h5 x hx;obtain⟨s,g3,_⟩:=Yri m _ g2;exact⟨s,KY g1 rfl g3,trivial⟩
 exact⟨g,rfl⟩
theorem TI (n:Nat)(cs:List ah)(h:n8 Tryz.prog n 74 cs):∃l:Li,cs=l.aH.cells/\l.l.fit/\l.r.fit:=by
 obtain⟨m,rfl,h1,h2⟩:=Pv (L:=[(4,0,1),(70,1,2),(70,3,2)]) (N:=5) (by kernel_rfl) (by kernel_rfl) h;obtain⟨b,e1⟩:=Y2 (by kernel_rfl) (h2 (4,0,1) (by simp));obtain⟨l,e2,f2⟩:=Uf m _ (h2 (70,1,2) (by simp));obtain⟨r,e3,f3⟩:=Uf m _ (h2 (70,3,2) (by simp));obtain⟨x1,x2,x3,x4,x5,rfl⟩:=Sq h1;rw[dO]at e2 e3;simp at e1 e2 e3;obtain⟨rfl,rfl⟩:=e2;obtain⟨rfl,rfl⟩:=e3;subst e1;exact⟨⟨b,l,r⟩,rfl,f2,f3⟩
theorem Yro {a:ah} (h:Co Tryz.prog 23 a):∃es:List (List Li),a=.ps 1 (c9 es)/\∀c∈es,p5 c:=by
 obtain ⟨m,es,rfl,h4,h5⟩:=X5 (e:=24) (sz:=1) (ag:=false) (by kernel_rfl) (by kernel_rfl) h;obtain⟨c,rfl,hc⟩:=Gs (f:=λc=>.ps 5 (lits c)) (p:=p5) es λx hx=>by
  obtain⟨g1,g2⟩:=h5 x hx;obtain⟨m',_,uB,e2,_,h6⟩:=Pz (e:=74) (sz:=5) (ag:=true) (by kernel_rfl) g2;obtain⟨c,rfl,hc⟩:=Gs (f:=Li.aH) (p:=λl=>l.l.fit/\l.r.fit) uB λy hy=>by
   obtain⟨k1,k2⟩:=h6 y hy;obtain⟨s,g3,g4⟩:=TI m' _ k2;exact⟨s,KY k1 rfl g3,g4⟩
  exact⟨c,NY g1 e2,hc⟩
 exact⟨c,rfl,hc⟩
theorem Yiw {a:ah} (h:Co Tryz.prog 24 a):∃c:List Li,a=.ps 5 (lits c)/\p5 c/\c.length<=2600000000000:=by
 obtain⟨h1,n,h2⟩:=h;obtain⟨m,_,es,h3,h4,h5⟩:=X9 (e:=74) (sz:=5) (ag:=true) (by kernel_rfl) h2;have e1:a=.ps 5 es:=NY (h1.trans (by kernel_rfl)) h3;subst e1;obtain⟨c,rfl,hc⟩:=Gs (f:=Li.aH) (p:=λl=>l.l.fit/\l.r.fit) es λx hx=>by
  obtain⟨g1,g2⟩:=h5 x hx;obtain⟨s,g3,g4⟩:=TI m _ g2;exact⟨s,KY g1 rfl g3,g4⟩
 refine⟨c,rfl,hc,?_⟩;have hb:Tryz.prog.bytesOf 74=72:=by kernel_rfl
 have h6:=h4.2;rw[hb,ao]at h6;unfold reachBytes at h6;omega
end Go.Proofs
namespace Go.Proofs
open Go Go.dq
theorem Yez {c:List Li}:∀l∈c,l.l.size<=Tm.bw (cH c)/\l.r.size<=Tm.bw (cH c):=by
 induction c with
 |nil=>intro l hl;cases hl
 |cons a c ih =>
  intro l hl;have e:Tm.bw (cH (a :: c))=a.l.size+(a.r.size+Tm.bw (cH c)):=rfl;rw[e];rcases aU.1 hl with rfl|hl
  ·omega
  ·have:=ih l hl;omega
theorem Yrg {c:List Li}(h:rr c=true):Tm.bw (cH c)<=80/\c.length<=8:=by
 unfold rr at h;simp only[aG,decide_eq_true_eq]at h;have:=(WB (m:=80) (by omega) (cH c) 0 (by omega) (by omega)).2 h.1;omega
theorem Wy {c:List Li}(h:jG c=true):Tm.bw (cH c)<=500/\c.length<=40:=by
 unfold jG at h;simp only[aG,decide_eq_true_eq]at h;have:=(WW (cH c) 0 (by omega) (by omega)).2 h.2;omega
theorem TR:∀(es:List (List Li)) (n:Int),(mB es n).1=true->∀c∈es,jG c=true
 |[],_,_,c,hc=>by cases hc
 | d :: es,n,h,c,hc=>by
  rw[mB]at h;split at h
  ·rename_i h1;rcases aU.1 hc with rfl|hc
   ·exact h1
   ·exact TR es _ h c hc
  ·cases h
theorem Ur {es:List (List Li)}(h:qw es=true):es.length<=8/\∀c∈es,jG c=true:=by
 unfold qw at h;simp only[aG,decide_eq_true_eq]at h;exact⟨h.1,TR es 0 h.2.1⟩
theorem Yk {c:List Li}(h:Tm.bw (cH c)<=1000):oY c:=λi hi=>by
 have:=Yez (c:=c) _ (ay hi);omega
theorem Yw7 {es:List (List Li)}{c:List Li}(h1:qw es=true)(h2:rr c=true)(f1:∀x∈es,p5 x)(f2:p5 c):qk es c:=by
 obtain⟨a1,a2⟩:=Ur h1;refine⟨by omega,λx hx=>?_⟩;rcases aU.1 hx with rfl|hx
 ·exact⟨Yk (by have:=(Yrg h2).1;omega),f2⟩
 ·exact⟨Yk (by have:=(Wy (a2 x hx)).1;omega),f1 x hx⟩
def u_ (c:List Li):Bool:=match c with
 |[e]=>!e.neg
 |_=>false
theorem Ybs (n:Int)(p:List Int)(hp:p.length<=1000000):az Tryz.prog 176 [.int .i64 n,.ps 1 (ints p)] (.ps 1 (ints (n :: p))):=by
 refine az.begin (rs:=[.tmp 4]) (m:=9) 1000 Tryz.func176 rfl rfl rfl (by decide) (cY _) ?_;have hl:=ja p;have ht:List.take p.length (ints p)=ints p:=aO (by omega);simp only[go_sem,hl,ht,DR];refine⟨by omega,by omega,?_⟩;rw[aO (by rw[aq,hl];omega)];exact bL _ _ _
theorem M6:∀(p:List Int) (t:Tm),p.length<=1000000->t.size<=1000000000->az Tryz.prog 177 [t.aH,.ps 1 (ints p)] (.dw [((t.mr p).getD gQ).aH,.bool (t.mr p).isSome])
 |[],t,_,_=>by
  refine az.begin (rs:=[.cell 4 70,.tmp 5]) (m:=34) 1000 Tryz.func177 rfl rfl rfl (by decide) (by simp[go_sem,cV]) ?_;simp only[go_sem,dO,wy,aF,Tm.mr,bd,oI];rw[cq];exact bL _ _ _
 | n :: p,t,hp,ht=>by
  refine az.begin (rs:=[.cell 4 70,.tmp 5]) (m:=34) 1000 Tryz.func177 rfl rfl rfl (by decide) (by simp[go_sem,cV]) ?_;have nw:=mH t.args;have Hv:=n9 t;have tE:(ints p).length+1=p.length+1:=by rw[ja]
  have dL:¬(((p.length+1:Nat):Int)=0):=by omega
  have wb:(0:Int)<((p.length+1:Nat):Int):=by omega
  have hz:gQ.aH=.agg [.int .i64 0,.ps 2 []]:=by rw[cq];rfl
  simp only[aq]at hp;simp only[go_sem,dO,DR,aq,tE,dL];refine aC.draw [] 2 2 mixed rfl rfl (by decide) ?_;by_cases h0:n<0
  ·have ha:t.mr (n :: p)=none:=by rw[Tm.mr,if_pos h0]
   simp only[go_sem,cM,tE,wb,aV,h0]
   (repeat((with_reducible refine And.intro ?_ ?_);·omega))
   refine aC.g ?_;rw[ha];simp only[go_sem,dD,oH,hz]
  ·by_cases h1:n.toNat<t.args.length
   ·have ha:t.mr (n :: p)=(t.args[n.toNat]).mr p:=by rw[Tm.mr,if_neg h0,dif_pos h1]
    rw[ha];have h2:¬(t.args.length:Int)<=n:=by omega
    have zb:(t.args.map Tm.aH).getD n.toNat .undef=(t.args[n.toNat]).aH:=jT h1;have eM:=sn t.args n.toNat h1;have ih:=M6 p t.args[n.toNat] (by omega) (by omega);generalize t.args[n.toNat]=x at *
    generalize x.mr p=y at *
    simp only[go_sem,cM,tE,wb,aV,h0,h2]
    (repeat((with_reducible refine And.intro ?_ ?_);·omega))
    refine aC.g ?_;simp only[go_sem];refine aC.draw [.no,.no,.no,.no,.no,.no,.no,.no,.no,.no,.no,.no,⟨none,[1],[]⟩] 2 2 mixed rfl rfl (by decide) ?_;have hdr:List.drop 1 (ah.int .i64 n :: ints p)=ints p:=rfl;have hle:(1:Int)<=((p.length+1:Nat):Int):=by omega
    simp only[go_sem,cM,tE,wb,aV,zb,dO,hdr,hle];have oB:List.take (p.length+1-1) (ints p)=ints p:=aO (by rw[ja];omega);rw[oB];refine⟨by omega,?_⟩;refine jS ih (by(try simp only[cq]);exact bL _ _ _) ⟨cV _,cY _,trivial⟩ ?_
    simp only[go_sem,dO];refine aC.g ?_;simp only[go_sem];rw[cq];exact bL _ _ _
   ·have ha:t.mr (n :: p)=none:=by rw[Tm.mr,if_neg h0,dif_neg h1]
    have h2:(t.args.length:Int)<=n:=by omega
    simp only[go_sem,cM,tE,wb,aV,h0,h2]
    (repeat((with_reducible refine And.intro ?_ ?_);·omega))
    refine aC.g ?_;rw[ha];simp only[go_sem,dD,oH,hz]
mutual
def Tm.zw:Tm->List (List Int)
 |.mk _ ts=>[] :: Tm.nW ts 0
def Tm.nW:List Tm->Nat->List (List Int)
 |[],_=>[]
 |t :: ts,i=>(t.zw).map (λp=>(i:Int):: p)++Tm.nW ts (i+1)
end
mutual
theorem XI:∀(t:Tm) (q:List Int),t.ib q=t.zw.map (q++·)
 |.mk _ ts,q=>by
  rw[Tm.ib,Tm.zw,aI,bf,NN ts q 0]
theorem NN:∀(ts:List Tm) (q:List Int) (i:Nat),Tm.kQ ts q i=(Tm.nW ts i).map (q++·)
 |[],q,i=>rfl
 |t :: ts,q,i=>by
  rw[Tm.kQ,Tm.nW,cf,XI t,NN ts q (i+1),List.map_map];congr 1;refine jf λp _=>?_;simp
end
theorem Km (t:Tm):t.ib []=t.zw:=by rw[XI];simp
theorem Xm:∀(ts:List Tm) (i k:Nat) (h:i<ts.length),Tm.nW (ts.take (i+1)) k=Tm.nW (ts.take i) k++(ts[i].zw).map (λp=>((k+i:Nat):Int):: p)
 |t :: ts,0,k,_=>by simp[Tm.nW]
 |t :: ts,i+1,k,h=>by
  simp only[cW,Tm.nW,df];rw[Xm ts i (k+1) (by simpa using h),cg,show k+1+i=k+(i+1) by omega]
theorem TX (t:Tm):t.zw.length=t.size:=by rw[<-Km,Ab]
theorem Ynr (t:Tm):∀p∈t.zw,p.length<t.size:=λp hp=>by
 rw[<-Km]at hp;obtain⟨p',rfl,h,_⟩:=G3 t [] p hp;simpa using h
def tX (L:List (List Int)):List ah:=.a8 :: mL L
theorem Ytr (L:List (List Int))(p:List Int):tX (L++[p])=tX L++[.ps 1 (ints p)]:=by simp[tX,mL]
theorem Iv {n:Nat}(L:List (List Int)):bG n (tX L):=⟨trivial,of_eq_true (vX L)⟩
theorem PK (L:List (List Int)):(tX L).length=L.length+1:=by simp[tX,y0]
theorem Yxi {F:Nat->Bool}{σ:av}(L:List (List Int)):mD F σ (mL ([] :: L)) (tX L):=by
 rw[show mL ([] :: L)=.ps 1 (ints []):: mL L from rfl,tX,yW]
 exact⟨by simp[go_sem,wy],bL _ _ _⟩
theorem Yva (t:Tm):t.size<=1000000->az Tryz.prog 149 [t.aH] (.ps 1 (mL t.zw)):=by
 induction t using Tm.fF with
 |h h ts ih =>
 intro hs;simp only[Tm.size]at hs;have hlen:=mH ts;refine az.begin (rs:=[.tmp 2]) (m:=36) 1000 Tryz.func149 rfl rfl rfl (by decide) (of_eq_true (vX _)) ?_;simp only[go_sem,cq,Tm.head,Tm.args];have RP:Tm.zw (.mk h ts)=[] :: Tm.nW ts 0:=rfl;have B_:∀i,(Tm.nW (ts.take i) 0).length=Tm.bw (ts.take i):=λi=>by rw[<-N5 (ts.take i) [] 0,NN];simp
 rw[RP];refine aC.ep (ι:={i:Nat // i<=ts.length}) 1000 (λi=>dV 37 [(1,.ptr 0 0),(2,.a8),(3,eR 1 1 (tX (Tm.nW (ts.take i.1) 0))),(4,.int .i64 i.1)]) (λi=>[some (.var [.int .i64 h,.ps 2 (ts.map Tm.aH)]),cX (tX (Tm.nW (ts.take i.1) 0))]) (λi=>ts.length-i.1) ⟨0,by omega⟩ [] ?_ (λ_=>by simp) ?_
 ·refine eL rfl ?_;have e0:tX (Tm.nW [] 0)=[.a8]:=rfl;simp only[go_sem,e0,Cy,BR,bC,bT (bC _)]
 ·rintro ⟨i,hi⟩;by_cases bx:(i:Int)<ts.length
  ·have aL:i<ts.length:=by omega
   have hw:=W1' i (by omega)
   have hg:(ts.map Tm.aH).getD i .undef=ts[i].aH:=jT aL;have eM:=sn ts i aL;have rD:=Xm ts i 0 aL;have ap_:=zC ts i aL;have gE:=yj ts (i+1);have qS:=B_ i;have hc:=ih i aL (by omega);have hxl:=TX ts[i];have hxp:=Ynr ts[i];rw[br]at rD;generalize ts[i]=x at *
   generalize x.zw=l at *
   generalize hq:Tm.nW (ts.take i) 0=q at *
   simp only[go_sem,bx,hg,dO,hq];refine⟨by omega,?_⟩;refine ak.bm [] (hc) (by(try simp only[cq]);exact bL _ _ _) (by simp[go_sem,cV,bC]) ?_;rw[eW];simp only[ite_self];refine aC.g ?_
   simp only[go_sem];refine aC.ep (ι:={j:Nat // j<=l.length}) 1000 (λj=>dV 37 [(1,.ptr 0 0),(2,.a8),(3,eR 1 1 (tX (q++(l.take j.1).map (λp=>(i:Int):: p)))),(4,.int .i64 i),(5,.ps 1 (mL l)),(6,.int .i64 j.1)]) (λj=>[some (.var [.int .i64 h,.ps 2 (ts.map Tm.aH)]),cX (tX (q++(l.take j.1).map (λp=>(i:Int):: p)))]) (λj=>l.length-j.1) ⟨0,by omega⟩ [] ?_ (λ_=>by simp) ?_
   ·refine eL rfl ?_;have e0:tX (q++[])=tX q:=by rw[bf]
    have lw:bG 0 (tX q):=Iv q;simp only[go_sem,e0,bC,bT (bC _),bT lw,Iv,bT (of_eq_true (vX l))]
   ·rintro ⟨j,hj⟩;by_cases sC:(j:Int)<l.length
    ·have nO:j<l.length:=by omega
     have xQ:=W1' j (by omega)
     have hgj:(mL l).getD j .undef=.ps 1 (ints l[j]):=by simp[mL,List.getD,nO]
     have hb:=Ybs i l[j] (by have:=hxp _ (ay nO);omega);have oB:List.take (j+1) l=List.take j l++[l[j]]:=by rw[cx,ax nO];rfl
     have zl:tX (q++(l.take (j+1)).map (λp=>(i:Int):: p))=tX (q++(l.take j).map (λp=>(i:Int):: p))++[.ps 1 (ints ((i:Int):: l[j]))]:=by
      rw[oB,cf,<-cg,<-Ytr];rfl
     have Rw:(tX (q++(l.take j).map (λp=>(i:Int):: p))).length<=3000000:=by
      rw[PK,aA,ao,bN];omega
     generalize l[j]=y at *
     have lw:=Iv (n:=0) (q++(l.take (j+1)).map (λp=>(i:Int):: p));rw[zl]at lw;generalize tX (q++(l.take j).map (λp=>(i:Int):: p))=R at *
     simp only[go_sem,sC,y0,hgj];refine⟨by omega,?_⟩;refine ak.bm [] (hb) (bL _ _ _) (by simp[go_sem,cY]) ?_;rw[eW];simp only[ite_self];refine aC.g ?_;have ho:=of_eq_true (UN [(i:Int):: y]);rw[show mL [(i:Int):: y]=[.ps 1 (ints ((i:Int):: y))] from rfl]at ho
     simp only[go_sem,qg,ho];refine⟨by omega,⟨j+1,by omega⟩,[(1,3),(3,1)],eL rfl ?_,by simp only;omega⟩;simp only[zl];rw[qP (by simp),qQ (by simp)];simp only[go_sem,xQ,bC,bT (bC _),bT lw,iD (aj _) lw,vX,bT (of_eq_true (vX l))]
    ·have qh:j=l.length:=by omega
     subst qh;rw[bQ,<-rD];simp only[go_sem,sC,y0];refine aC.g ?_;simp only[go_sem];refine⟨⟨i+1,by omega⟩,[],eL rfl ?_,by simp only;omega⟩;have lw:=Iv (n:=0) (Tm.nW (ts.take (i+1)) 0);simp only[go_sem,hw,bC,bT (bC _),bT lw,Iv]
  ·have dm:i=ts.length:=by omega
   subst dm;rw[bQ];simp only[go_sem,bx];refine aC.g ?_;rw[show eR 1 1 (tX (Tm.nW ts 0))=.os 1 0 ((mL (Tm.nW ts 0)).length+1) 1 from rfl,show cX (tX (Tm.nW ts 0))=some (.row (tX (Tm.nW ts 0)) 0) from rfl]
   simp only[go_sem];refine⟨by rw[PK,y0];exact ae _,?_⟩;rw[aO (by rw[PK,y0];exact ae _)];exact Yxi _
theorem Ylf (ts:List Tm)(n:Nat)(x:Tm)(i:Nat)(h:i<ts.length):(ts.set n x).take (i+1)=(ts.set n x).take i++[if n=i then x else ts[i]]:=by
 rw[cx,eA];by_cases e:n=i
 ·subst e;simp[h]
 ·simp[e,h]
set_option maxHeartbeats 1000000 in
theorem T0:∀(p:List Int) (t u v:Tm),p.length<=1000000->t.size<=1000000->t.mr p=some v->az Tryz.prog 223 [t.aH,.ps 1 (ints p),u.aH] (t.jy p u).aH
 |[],t,u,v,_,_,_=>by
  refine az.begin (rs:=[.cell 6 70]) (m:=50) 1000 Tryz.func223 rfl rfl rfl (by decide) (cV _) ?_;simp only[go_sem,dO,wy,aF,Tm.jy];rw[cq];exact bL _ _ _
 | n :: p,t,u,v,hp,ht,hv=>by
  refine az.begin (rs:=[.cell 6 70]) (m:=50) 1000 Tryz.func223 rfl rfl rfl (by decide) (cV _) ?_;have nw:=mH t.args;have Hv:=n9 t;have tE:(ints p).length+1=p.length+1:=by rw[ja]
  have dL:¬(((p.length+1:Nat):Int)=0):=by omega
  have wb:(0:Int)<((p.length+1:Nat):Int):=by omega
  simp only[aq]at hp;rw[Tm.mr]at hv;split at hv
  ·cases hv
  split at hv
  case isFalse=>cases hv
  rename_i h0 h1;have Em:t.jy (n :: p) u=.mk t.head (t.args.set n.toNat ((t.args[n.toNat]).jy p u)):=by
   rw[Tm.jy,show t.args.getD n.toNat gQ=t.args[n.toNat] by simp[List.getD,h1]]
  have rD:=sn t.args n.toNat h1;have ih:=T0 p t.args[n.toNat] u v (by omega) (by omega) hv;rw[Em];obtain⟨z,hz⟩:∃z,(t.args[n.toNat]).jy p u=z:=⟨_,rfl⟩;rw[hz]at ih ⊢;have u0:(t.args.set n.toNat z).length=t.args.length:=bg;simp only[go_sem,dO,DR,aq,tE,dL];refine aC.ep (ι:={i:Nat // i<=t.args.length}) 1000 (λi=>dV 53 [(1,.ps 1 (.int .i64 n :: ints p)),(3,.ptr 0 0),(5,.ptr 1 0),(6,.ptr 2 0),(7,.ptr 3 0),(8,.int .i64 i.1)])
   (λi=>[some (.var [.int .i64 t.head,.ps 2 (t.args.map Tm.aH)]),some (.var [.int .i64 u.head,.ps 2 (u.args.map Tm.aH)]),some (.var [.int .i64 0,.a8]),some (.var [.int .i64 t.head,eR 4 2 (((t.args.set n.toNat z).take i.1).map Tm.aH)]),cX (((t.args.set n.toNat z).take i.1).map Tm.aH)])
   (λi=>t.args.length-i.1) ⟨0,aj _⟩ [] ?_ (λ_=>by simp) ?_
  ·refine eL rfl ?_;simp only[go_sem,aR,pU,pC,bC,cY,bT (cY _),bT (bC _)]
  ·rintro ⟨i,hi⟩;by_cases bx:(i:Int)<t.args.length
   ·have aL:i<t.args.length:=by omega
    have hw:=W1' i (by omega)
    have hg:(t.args.map Tm.aH).getD i .undef=t.args[i].aH:=jT aL;have A9:=Ylf t.args n.toNat z i aL;have ME:((t.args.set n.toNat z).take i).length<=i:=by rw[bN];omega
    have hR:∀(y:Tm) (Q:List Tm),eE ⟨2,true,32,[.int .i64 0,.a8],.struct⟩ [y.aH]:=λy _=>of_eq_true (BO [y]);generalize hq:(t.args.set n.toNat z).take i=q at *
    by_cases e:(i:Int)=n
    ·have e2:n.toNat=i:=by omega
     have hx:∃x,x=t.args[i]/\t.args[n.toNat]=x:=⟨_,rfl,by simp only[e2]⟩;obtain⟨x,xS,Es⟩:=hx;rw[Es]at ih;rw[<-xS]at hg;rw[if_pos e2]at A9;have e':=eq_true e;simp only[go_sem,bx,tE,wb,aV,e',hq]
     (repeat((with_reducible refine And.intro ?_ ?_);·omega))
     refine aC.draw [⟨none,[],[5]⟩,⟨none,[],[5]⟩,.no,.no,.no,.no,.no,.no,.no,.no,.no,⟨some 5,[5],[]⟩,⟨some 6,[4,6],[]⟩,.no,⟨none,[3],[]⟩] 5 7 mixed rfl rfl (by decide) ?_;have hdr:List.drop 1 (ah.int .i64 n :: ints p)=ints p:=rfl;have hle:(1:Int)<=((p.length+1:Nat):Int):=by omega
     have oB:List.take (p.length+1-1) (ints p)=ints p:=aO (by rw[ja];omega);have AP:(t.args.map Tm.aH).getD n.toNat .undef=x.aH:=by rw[e2];exact hg
     simp only[go_sem,cM,tE,wb,aV,hg,dO,hdr,hle,bx];rw[oB]
     (repeat((with_reducible refine And.intro ?_ ?_);·omega))
     refine jS ih (by(try simp only[cq]);exact bL _ _ _) ⟨cV _,cY _,cV _,trivial⟩ ?_
     have h3:bW [some (bS.var [.int .i64 t.head,.ps 2 (t.args.map Tm.aH)]),some (bS.var [.int .i64 u.head,.ps 2 (u.args.map Tm.aH)]),some (bS.var [.int .i64 0,.a8]),some (bS.var [.int .i64 t.head,eR 4 2 (q.map Tm.aH)]),cX (q.map Tm.aH),some (.row [z.aH] 0),none] 4=cX (q.map Tm.aH):=rfl;have pI:List.take 1 [z.aH]=[z.aH]:=rfl;simp only[go_sem,qg h3,hR z [],pI,dO]
     (repeat((with_reducible refine And.intro ?_ ?_);·omega))
     refine aC.g ?_;simp only[go_sem];refine⟨⟨i+1,aL⟩,[(4,6),(6,4)],eL rfl ?_,by simp only;omega⟩;simp only[A9];have lw:bG 0 ((q++[z]).map Tm.aH):=bC _;rw[cf,aI,aR]at lw ⊢;rw[qP (by simp),qQ (by simp)];simp only[go_sem,hw,bC,cY,bT (bC _),bT (cY _),bT lw,iD (aj _) lw]
    ·have e':=eq_false e;rw[if_neg (by omega)]at A9;obtain⟨x,xS⟩:∃x,t.args[i]=x:=⟨_,rfl⟩;rw[xS]at hg A9;simp only[go_sem,bx,tE,wb,aV,e',hq]
     (repeat((with_reducible refine And.intro ?_ ?_);·omega))
     refine aC.draw [⟨none,[],[5]⟩,⟨none,[],[5]⟩,.no,.no,.no,.no,.no,⟨some 5,[5],[]⟩,⟨some 6,[4,6],[]⟩,.no,⟨none,[3],[]⟩] 5 7 mixed rfl rfl (by decide) ?_;have Z4:=hR x [];rw[cq]at Z4;have h3:bW [some (bS.var [.int .i64 t.head,.ps 2 (t.args.map Tm.aH)]),some (bS.var [.int .i64 u.head,.ps 2 (u.args.map Tm.aH)]),some (bS.var [.int .i64 0,.a8]),some (bS.var [.int .i64 t.head,eR 4 2 (q.map Tm.aH)]),cX (q.map Tm.aH),some (.row [.agg [.int .i64 x.head,.ps 2 (x.args.map Tm.aH)]] 0),none] 4=cX (q.map Tm.aH):=rfl;have pI:List.take 1 [ah.agg [.int .i64 x.head,.ps 2 (x.args.map Tm.aH)]]=[.agg [.int .i64 x.head,.ps 2 (x.args.map Tm.aH)]]:=rfl;simp only[go_sem,cM,hg,dO,bx,qg h3,Z4,pI]
     (repeat((with_reducible refine And.intro ?_ ?_);·omega))
     refine aC.g ?_;simp only[go_sem];refine⟨⟨i+1,aL⟩,[(4,6),(6,4)],eL rfl ?_,by simp only;omega⟩;simp only[A9];have lw:bG 0 ((q++[x]).map Tm.aH):=bC _;rw[cf,aI,aR]at lw ⊢;rw[cq x]at lw ⊢;rw[qP (by simp),qQ (by simp)];simp only[go_sem,hw,bC,cY,bT (bC _),bT (cY _),bT lw,iD (aj _) lw]
   ·have dm:i=t.args.length:=by omega
    subst dm;rw[show List.take t.args.length (t.args.set n.toNat z)=t.args.set n.toNat z from aO (by omega)]
    rw[<-yp];simp only[go_sem,bx];refine aC.g ?_;simp only[go_sem,nI]
end Go.Proofs
