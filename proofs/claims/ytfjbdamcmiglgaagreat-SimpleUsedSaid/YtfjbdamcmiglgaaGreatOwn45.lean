/- Part 45 of my own framework and of the walks of functions: Ss, Sr, St, AcsZa, Su, Sv, Sw, Sx, Sy, Ua, Ub, Uc, Ud, Ue, Uf, Ug, Uh, Ui, Uj, Uk, Ul, Um, Un, Uo, Up, Uq, Ur, Us, Ut, Uu, Uv, Va, Vb, Vc, Vd, Ve, Wa, Wb, Wc, Wd, We, Wf, Wg, Wh, Wi, Wj, Wk, Wl, Wm, Wn, Wo, Wp, Wq, Wr, Ws. -/
import Derived.Test.YtfjbdamcmiglgaaGreatOwn44
import Derived.Shelf.Sort.Plain
import Derived.Shelf.Slices.In.SortNone
import Derived.Test.YtfjbdamcmiglgaaGreatProg
abbrev db:=@Bool.false_and
abbrev gy:=@List.find?_some
abbrev lZ:=@List.mem_filter
abbrev jG:=@List.mergeSort_perm
set_option linter.unusedVariables false
set_option linter.unusedSectionVars false
set_option linter.unusedSimpArgs false
namespace Go.Proofs
open Go.Shelf
def Tryz.lays189_ren:Go.Shelf.Ren:=⟨fun | 189=>225 | 125=>238 | 257=>237 | 128=>256 | 129=>257 | 294=>247 | 295=>248 | 296=>249 | 297=>250 | 298=>251 | 299=>252 | 216=>253 | 300=>254 | 301=>255 | 328=>260 | 329=>261 | 330=>262 | 331=>263 | 332=>264 | 215=>265 | 343=>266 | n=>n,fun | 28=>26 | 3=>3 | 46=>265 | 0=>0 | 51=>279 | 53=>281 | 4=>4 | 183=>272 | 182=>271 | 131=>135 | 5=>5 | 9=>9 | 218=>282 | 222=>286 | 228=>288 | 229=>289 | n=>n,fun | n=>n⟩
theorem Tryz.lays189:Go.Proofs.Lays.n189 Tryz.prog Tryz.lays189_ren:={
 mixed:=by kernel_rfl
 f125:=Tryz.func238.trans (congrArg some (by kernel_rfl))
 f128:=Tryz.func256.trans (congrArg some (by kernel_rfl))
 f129:=Tryz.func257.trans (congrArg some (by kernel_rfl))
 f189:=Tryz.func225.trans (congrArg some (by kernel_rfl))
 f215:=Tryz.func265.trans (congrArg some (by kernel_rfl))
 f216:=Tryz.func253.trans (congrArg some (by kernel_rfl))
 f257:=Tryz.func237.trans (congrArg some (by kernel_rfl))
 f294:=Tryz.func247.trans (congrArg some (by kernel_rfl))
 f295:=Tryz.func248.trans (congrArg some (by kernel_rfl))
 f296:=Tryz.func249.trans (congrArg some (by kernel_rfl))
 f297:=Tryz.func250.trans (congrArg some (by kernel_rfl))
 f298:=Tryz.func251.trans (congrArg some (by kernel_rfl))
 f299:=Tryz.func252.trans (congrArg some (by kernel_rfl))
 f300:=Tryz.func254.trans (congrArg some (by kernel_rfl))
 f301:=Tryz.func255.trans (congrArg some (by kernel_rfl))
 f328:=Tryz.func260.trans (congrArg some (by kernel_rfl))
 f329:=Tryz.func261.trans (congrArg some (by kernel_rfl))
 f330:=Tryz.func262.trans (congrArg some (by kernel_rfl))
 f331:=Tryz.func263.trans (congrArg some (by kernel_rfl))
 f332:=Tryz.func264.trans (congrArg some (by kernel_rfl))
 f343:=Tryz.func266.trans (congrArg some (by kernel_rfl))
 t0:=Tryz.underlying0
 a0:=Tryz.isAgg0
 z0:=Tryz.sizeOf0
 v0:=Tryz.zeroValue0
 t3:=Tryz.underlying3
 a3:=Tryz.isAgg3
 z3:=Tryz.sizeOf3
 v3:=Tryz.zeroValue3
 t4:=Tryz.underlying4
 a4:=Tryz.isAgg4
 z4:=Tryz.sizeOf4
 v4:=Tryz.zeroValue4
 t5:=Tryz.underlying5
 a5:=Tryz.isAgg5
 z5:=Tryz.sizeOf5
 v5:=Tryz.zeroValue5
 t9:=Tryz.underlying9
 a9:=Tryz.isAgg9
 z9:=Tryz.sizeOf9
 v9:=Tryz.zeroValue9
 t28:=Tryz.underlying26
 a28:=Tryz.isAgg26
 z28:=Tryz.sizeOf26
 v28:=Tryz.zeroValue26
 t46:=Tryz.underlying265
 a46:=Tryz.isAgg265
 z46:=Tryz.sizeOf265
 v46:=Tryz.zeroValue265
 t51:=Tryz.underlying279
 a51:=Tryz.isAgg279
 z51:=Tryz.sizeOf279
 v51:=Tryz.zeroValue279
 t53:=Tryz.underlying281
 a53:=Tryz.isAgg281
 z53:=Tryz.sizeOf281
 v53:=Tryz.zeroValue281
 t131:=Tryz.underlying135
 a131:=Tryz.isAgg135
 z131:=Tryz.sizeOf135
 v131:=Tryz.zeroValue135
 t182:=Tryz.underlying271
 a182:=Tryz.isAgg271
 z182:=Tryz.sizeOf271
 v182:=Tryz.zeroValue271
 t183:=Tryz.underlying272
 a183:=Tryz.isAgg272
 z183:=Tryz.sizeOf272
 v183:=Tryz.zeroValue272
 t218:=Tryz.underlying282
 a218:=Tryz.isAgg282
 z218:=Tryz.sizeOf282
 v218:=Tryz.zeroValue282
 t222:=Tryz.underlying286
 a222:=Tryz.isAgg286
 z222:=Tryz.sizeOf286
 v222:=Tryz.zeroValue286
 t228:=Tryz.underlying288
 a228:=Tryz.isAgg288
 z228:=Tryz.sizeOf288
 v228:=Tryz.zeroValue288
 t229:=Tryz.underlying289
 a229:=Tryz.isAgg289
 z229:=Tryz.sizeOf289
 v229:=Tryz.zeroValue289 }
open Go.Sort Go.RowKit in
theorem Tryz.slices_Sort_int (cf off cap:Nat) (zs:List Int) (w:World) (hH:Holds (Value.int .i64) w cf off zs.toArray) (xZ:cf<w.heap.size) (ft:zs.length<4611686018427387904) :
  Calls Tryz.prog 225 #[.slice (some ⟨cf,off,none⟩) zs.length cap] w fun e w' =>
   e = .returned (.tuple #[])∧∃ n os,w'=grow (putRow (Value.int .i64) (Sort.ahead w n) cf off (zs.mergeSort fun x y=>decide (x≤y)).toArray) os:=Any.slices_Sort_int Tryz.lays189 cf off cap zs w hH xZ ft
open Go.RowKit Go.Sort in
theorem Tryz.slices_Sort_int_none (p:Option Addr) (cap:Nat) (w:World) :
  Calls Tryz.prog 225 #[.slice p 0 cap] w fun e w'=>e = .returned (.tuple #[])∧w'=w:=Any.slices_Sort_int_none Tryz.lays189 p cap w
end Go.Proofs
namespace Go.Proofs
open Go Go.cV
attribute [local go_sem] Nat.reduceAdd Nat.reduceSub Nat.reduceMul Nat.reduceLeDiff Nat.reduceEqDiff Nat.reduceBEq Nat.reduceLT Nat.le_refl Int.natCast_zero Nat.sub_zero List.length_map Int.toNat_natCast Int.natCast_one Int.reduceEq Int.reduceLT Int.reduceLE Int.reduceNe Int.sub_zero Int.zero_add Int.toNat_one
theorem Yzg {m n b:Nat} (h:b<m∨n≤b):aw m n (.it b):=fun ρ dL=>by simp only [dI,dL b h]
theorem Ypb {m n:Nat} {ks vs:List ae} {seen:List Nat} (hk:bx 0 ks) (hv:bx 0 vs):IU m n (some (.kZ ks vs seen)):=fun ρ dL y hy=>by
 cases hy;simp only [dG,cz hk,cz hv]
theorem Td {σ:ai} {x:Option bE} {n:Nat} (h : σ.length=n):bF (σ++[x]) n=x:=by subst h;simp [bF]
theorem X6 {σ:ai} {x:Option bE} {B:bE} {n:Nat} (h : σ.length=n):b_ (σ++[x]) n B = σ++[some B]:=by subst h;simp [b_]
theorem Ip:∀ (σ τ:ai),ig σ (σ++τ)
 | [],_=>trivial
 | a :: σ,τ=>⟨.inl rfl,Ip σ τ⟩
theorem ZX (kv:List Int) (vs:List ae) (me:bx 0 vs) (n0:Nat) (kc:ai) (S:List Nat→ai) (p:Nat) (y:ae) (h0 : kc.length=n0) (xU : kc++[none]=S []) (hlen:∀ i,(S i).length=n0+1) (eH:∀ i,bF (S i) p=some (.var [.pm (ints kv) vs])) (hp:p<n0)
  (hs:∀ i,bt (n0+1) (S i)) (nI:bt n0 kc) (nK:y.low n0)
  (hy:∀ (seen:List Nat) (j:Nat) (h:j<kv.length),j ∉ seen→seen.Nodup→(∀ i∈seen,i<kv.length)→aq Tryz.prog y [.int .i64 kv[j]] (S seen) (fun r σ'=>r = .bool true∧n0+1≤σ'.length∧bt σ'.length σ'∧∃ π:Nat→Nat,(∀ b,b<n0→π b=b)∧(∀ b b',b<n0+1→b'<n0+1→π b = π b'→b=b')∧gb π σ' 0 (S (seen++[j])))) :
  aq Tryz.prog (.fn 226 [] [.ptr p 0]) [y] kc (fun _ σ'=>∃ seen:List Nat,seen.Nodup∧(∀ i,i∈seen↔i<kv.length)∧σ'=S seen):=by
 subst h0
 refine aq.l6 (rs:=[]) (m:=12) Tryz.func226 rfl rfl rfl rfl rfl ?_
 refine aK.pad 1 (ah _) (by simp [go_sem,nK,hp]) nI ?_
 rw [show List.replicate 1 (none:Option bE)=[none] from rfl,xU]
 refine aK.go 1000 ?_
 simp only [go_sem,eH,ah]
 rw [Bf,hlen]
 have GD:∀ seen,bt (kc.length+2) [some (bE.kZ (ints kv) vs seen)]:=fun seen=>⟨⟨dp _,ie (av _) me⟩,trivial⟩
 have qg:∀ seen,bt (kc.length+2) (S seen++[some (bE.kZ (ints kv) vs seen)]):=fun seen=>o9 (nA (by omega) (hs seen)) (GD seen)
 refine aK.c9 (ι:={seen:List Nat // seen.Nodup∧∀ i∈seen,i<kv.length}) 1000 (fun q=>fD 14 [(0,y),(5, .it (kc.length+1))]) (fun q=>S q.1++[some (.kZ (ints kv) vs q.1)]) (fun q=>s0 kv.length q.1) ⟨[],kE,fun i hi=>by cases hi⟩ ?_ (fun q=>by rw [ay,hlen];simp only;omega) ?_
 ·simp only [go_sem,ay,hlen,au,aR,qg,mP (m:=kc.length+1+1) (bN _ 2) nK]
  exact ⟨fx _,by omega⟩
 ·rintro ⟨seen,oS,bD⟩
  simp only [go_sem]
  have hgm:bF (S seen++[some (bE.kZ (ints kv) vs seen)]) (kc.length+1)=some (.kZ (ints kv) vs seen):=Td (hlen seen)
  refine ⟨kc.length+1,ints kv,vs,seen,rfl,hgm,fun j hj hn=>?_,fun eX=>?_⟩
  ·rw [kV] at hj
   rw [X6 (hlen seen),wH hj]
   have hz:ae.low 0 (vs.getD j .undef):=iX me j
   obtain ⟨z,BR⟩:∃ z,vs.getD j .undef=z:=⟨_,rfl⟩
   rw [BR] at hz ⊢
   have Mx:aw kc.length (kc.length+1) (.dy [.bool true, .int .i64 kv[j],z]):=Ct (mP (av _) (show ae.low 0 _ from ⟨trivial,trivial,hz,trivial⟩))
   have My:aw kc.length (kc.length+1) (.dy [.int .i64 kv[j],z]):=Ct (mP (av _) (show ae.low 0 _ from ⟨trivial,hz,trivial⟩))
   have Nc:(seen++[j]).Nodup:=by
    rw [gB]
    exact ⟨oS,by simp,fun a ha b hb=>by rw [aQ.1 hb];exact fun e=>hn (e ▸ ha)⟩
   have aZ:∀ i∈seen++[j],i<kv.length:=fun i hi=>by
    rcases aX.1 hi with hi | hi
    ·exact bD i hi
    ·rw [aQ.1 hi];exact hj
   have MU:bF (S seen++[some (bE.kZ (ints kv) vs (seen++[j]))]) (kc.length+1)=some (.kZ (ints kv) vs (seen++[j])):=Td (hlen seen)
   refine aK.go 1000 ?_
   simp only [go_sem,MU,wH hj,BR]
   refine aK.qF (σ:=S seen) (τ:=[some (bE.kZ (ints kv) vs (seen++[j]))]) (.bool true) trivial (by rw [hlen];exact dK _) ?_ ?_ ?_ ?_ ?_ ?_ ?_ ?_
   ·rw [hlen];exact mP (dK _) nK
   ·simp [go_sem]
   ·rw [hlen];exact hs seen
   ·rw [hlen]
    have hit:=Yzg (m:=kc.length) (n:=kc.length+1) (b:=kc.length+1) (.inr (ah _))
    simp [go_sem,DT,D2,Ct,nK,hit,Mx,My]
   ·rw [Q5,Sr]
    exact ⟨Ypb (dp _) me,trivial⟩
   ·rw [hlen]
    have nW:=mP (m:=kc.length+1+1) (bN _ 2) nK
    have hvg:=mP (av (kc.length+1+1)) hz
    simp [go_sem,nW,hvg]
   ·rw [hlen];exact GD _
   refine (hy seen j hj hn oS bD).mono ?_
   rintro r σ' ⟨k1,k2,k3,π,k4,k5,k6⟩
   rw [hlen]
   refine ⟨k1,k2,k3,π,S (seen++[j]),hlen _,k4,k5,k6,hs _,?_⟩
   refine aK.go 1000 ?_
   simp only [go_sem]
   refine ⟨⟨seen++[j],Nc,aZ⟩,?_,Ss hj hn⟩
   simp only [go_sem,ay,hlen,au,aR,qg,mP (m:=kc.length+1+1) (bN _ 2) nK]
   exact ⟨fx _,by omega⟩
  ·refine aK.go 1000 ?_
   simp only [go_sem]
   refine aK.go 1000 ?_
   simp only [go_sem]
   rw [fL]
   exact ⟨S seen,Ip _ _,by rw [hlen];exact dK _,by rw [hlen];exact hs _,trivial,seen,oS,fun i=>⟨bD i,fun h=>eX i (by rw [kV];exact h)⟩,rfl⟩
def na (kv:List Int) (seen:List Nat):List Int:=seen.map fun j=>kv.getD j 0
theorem Zc {kv:List Int} {seen:List Nat} {j:Nat} (h:j<kv.length):na kv (seen++[j])=na kv seen++[kv[j]]:=by simp [na,List.getD,h]
theorem Ylb (kv:List Int) (seen:List Nat):(na kv seen).length=seen.length:=by simp [na]
theorem Zns (kv:List Int) (vs:List ae) (me:bx 0 vs) (hl:kv.length<100000000) :
  aq Tryz.prog (.fn 236 [] []) [.aU, .fn 226 [] [.ptr 0 0]] [some (.var [.pm (ints kv) vs])]
   (fun r σ'=>∃ seen:List Nat,seen.Nodup∧(∀ i,i∈seen↔i<kv.length)∧r=ja 3 1 (ints (na kv seen))∧σ'=[some (.var [.pm (ints kv) vs]),none,none,eJ (ints (na kv seen))]):=by
 refine aq.begin (rs:=[.tmp 4]) (m:=11) 1000 Tryz.func236 rfl rfl rfl rfl rfl ?_
 simp only [go_sem]
 refine aK.rangeFunc (fD 13 [(2, .ptr 1 0)]) ?_ ?_ (fun ρ ht vB kS qM=>?_)
 ·simp only [go_sem]
 ·exact fun b hb=>by cases hb
 simp only [go_sem]
 have jh:bx 3 ρ.tm:=by rw [ht];simp [go_sem,zX,z6]
 have fP:∀ l:List Int,bt 4 [some (.var [.pm (ints kv) vs]),some (.var [ja 3 1 (ints l)]),some (.loop (ρ.at .ready)),eJ (ints l)] :=
  fun l=>⟨⟨⟨dp _,ie (av _) me⟩,trivial⟩,⟨Bl (by decide) 1 _,trivial⟩,ie (by decide) jh,zU _ (dp _),trivial⟩
 refine (ZX kv vs me 3 _ (fun seen=>[some (.var [.pm (ints kv) vs]),some (.var [ja 3 1 (ints (na kv seen))]),some (.loop (ρ.at .ready)),eJ (ints (na kv seen))]) 0 (.ld 2) rfl rfl (fun _=>rfl) (fun _=>rfl) (by decide) (fun k=>fP _) ?_ (cD 2) (fun seen j hj hn oS bD=>?_)).mono ?_
 ·exact ⟨⟨⟨dp _,ie (av _) me⟩,trivial⟩,⟨trivial,trivial⟩,jh,trivial⟩
 ·have yu:(na kv seen).length≤kv.length:=by
   rw [Ylb]
   have h1:seen.length≤(List.range kv.length).length:=List.Nodup.length_le_of_subset oS fun i hi=>cw.2 (bD i hi)
   rwa [List.length_range] at h1
  rw [Zc hj]
  generalize kv[j]=v at *
  generalize na kv seen=L at *
  have wa:∀ b,b<3→pi [(3,5),(5,3)] b=b:=by decide
  refine aq.move [(3,5),(5,3)] (S':=[some (.var [.pm (ints kv) vs]),some (.var [.os 5 0 (L.length+1) 1]),some (.loop (ρ.at .ready)),none,none,some (.row (ints L++[.int .i64 v]) 0)]) ?_ ?_ rfl ?_ ?_
  ·exact bN 4 2
  ·exact ⟨⟨⟨dp _,ie (av _) me⟩,trivial⟩,⟨cD 5,trivial⟩,ie (bN 3 3) jh,trivial,trivial,rZ (dp _) ⟨trivial,trivial⟩,trivial⟩
  ·have tv:=Bk (pi [(3,5),(5,3)]) 3 wa (.loop (ρ.at .ready)) jh
   simp only [Cj,Fe,E_,Hw,HA,KD,tv]
   simp [go_sem,cz me,cz (dp _),cz (rZ (dp L) (show bx 0 [ae.int .i64 v] from ⟨trivial,trivial⟩)),kV]
  refine aq.lH 1000 ht vB kS qM rfl rfl ?_
  simp only [go_sem,eL,aQ,forall_eq,cn,uQ,kV]
  refine ⟨by omega,?_⟩
  rw [tL]
  exact ⟨rfl,[some (.var [.pm (ints kv) vs]),some (.var [.os 5 0 (L.length+1) 1]),some (.loop (ρ.at .ready)),none,none,some (.row (ints L++[.int .i64 v]) 0)],by simp [go_sem],bN 4 2,⟨⟨⟨dp _,ie (av _) me⟩,trivial⟩,⟨cD 5,trivial⟩,ie (bN 3 3) jh,trivial,trivial,rZ (dp _) (show bx 6 [ae.int .i64 v] from ⟨trivial,trivial⟩),trivial⟩,rfl,rfl⟩
 rintro r' iO ⟨seen,oS,eX,rfl⟩
 rw [Cv]
 refine ⟨.ready,rfl,?_⟩
 rw [D9]
 refine aK.go 1000 ?_
 simp only [go_sem]
 rw [fL]
 exact ⟨[some (.var [.pm (ints kv) vs]),none,none,eJ (ints (na kv seen))],by simp [go_sem],by simp,⟨⟨⟨dp _,ie (av _) me⟩,trivial⟩,trivial,trivial,zU _ (dp _),trivial⟩,Bl (show 3<4 by decide) 1 _,seen,oS,eX,rfl,rfl⟩
theorem Zu7 (kv:List Int) (vs:List ae) (me:bx 0 vs) (hl:kv.length<100000000) :
  aq Tryz.prog (.fn 224 [] []) [.fn 226 [] [.ptr 0 0]] [some (.var [.pm (ints kv) vs])]
   (fun r σ'=>∃ seen:List Nat,seen.Nodup∧(∀ i,i∈seen↔i<kv.length)∧r=ja 3 1 (ints (na kv seen))∧σ'=[some (.var [.pm (ints kv) vs]),none,none,eJ (ints (na kv seen))]):=by
 refine aq.begin (rs:=[.tmp 2]) (m:=4) 1000 Tryz.func224 rfl rfl rfl rfl rfl ?_
 simp only [go_sem]
 refine (Zns kv vs me hl).mono ?_
 rintro r σ' ⟨seen,oS,eX,rfl,rfl⟩
 refine aK.go 1000 ?_
 simp only [go_sem]
 rw [fL]
 exact ⟨[some (.var [.pm (ints kv) vs]),none,none,eJ (ints (na kv seen))],by simp [go_sem],by simp,⟨⟨⟨dp _,ie (av _) me⟩,trivial⟩,trivial,trivial,zU _ (dp _),trivial⟩,Bl (show 3<4 by decide) 1 _,seen,oS,eX,rfl,rfl⟩
def fW (l:List Int):List Int:=l.mergeSort fun x y=>decide (x≤y)
theorem DZ (l:List Int):(fW l).length=l.length:=List.length_mergeSort l
theorem Zyq {a b:List Int} (h:a.Perm b):fW a=fW b:=by
 have ht:∀ x y z:Int,decide (x≤y)=true→decide (y≤z)=true→decide (x≤z)=true:=fun x y z h1 h2=>by simp at *;omega
 have hc:∀ x y:Int,(decide (x≤y)||decide (y≤x))=true:=fun x y=>by simp;omega
 refine List.Perm.eq_of_pairwise (le:=fun x y=>decide (x≤y)=true) (fun x y _ _ h1 h2=>by simp at h1 h2;omega) (List.pairwise_mergeSort ht hc a) (List.pairwise_mergeSort ht hc b) ?_
 exact (jG a _).trans (h.trans (jG b _).symm)
theorem XV {kv:List Int} {seen:List Nat} (oS:seen.Nodup) (eX:∀ i,i∈seen↔i<kv.length):(na kv seen).Perm kv:=by
 have h1:seen.Perm (List.range kv.length):=(List.perm_ext_iff_of_nodup oS List.nodup_range).2 fun i=>by rw [eX,cw]
 have h2:=h1.map fun j=>kv.getD j 0
 have h3:(List.range kv.length).map (fun j=>kv.getD j 0)=kv:=by
  apply List.ext_getElem (by simp)
  intro i h4 h5
  simp [List.getD,h5]
 rw [h3] at h2
 exact h2
theorem YI {b sz:Nat} {l l':List ae} (h:l.length=l'.length):ja b sz l=ja b sz l':=by
 cases l with
 | nil=>cases l' with
  | nil=>rfl
  | cons x l'=>simp at h
 | cons y l=>cases l' with
  | nil=>simp at h
  | cons x l'=>simp only [ZA];rw [show l.length=l'.length by simpa using h]
theorem Zza (kv:List Int) (vs:List ae) (me:bx 0 vs) (hl:kv.length<100000000) :
  aq Tryz.prog (.fn 209 [] []) [.fn 226 [] [.ptr 0 0]] [some (.var [.pm (ints kv) vs])]
   (fun r σ'=>r=ja 3 1 (ints (fW kv))∧σ'=[some (.var [.pm (ints kv) vs]),none,none,eJ (ints (fW kv))]):=by
 refine aq.begin (rs:=[.tmp 2]) (m:=8) 1000 Tryz.func209 rfl rfl rfl rfl rfl ?_
 simp only [go_sem]
 refine (Zu7 kv vs me hl).mono ?_
 rintro r σ' ⟨seen,oS,eX,rfl,rfl⟩
 have ED:=XV oS eX
 rw [← Zyq ED]
 have VA:=ED.length_eq
 generalize na kv seen=L at *
 have kg:∀ K:ae→ai→Prop,K (.dy []) [some (.var [.pm (ints kv) vs]),none,none,eJ (ints (fW L))]→aq Tryz.prog (.fn 225 [] []) [ja 3 1 (ints L)] [some (.var [.pm (ints kv) vs]),none,none,eJ (ints L)] K:=fun K hK=>by
  cases L with
  | nil =>
   rw [show ints []=[] from rfl,tK,td]
   refine aq.AU Tryz.func225 rfl rfl (fun a cap w=>Tryz.slices_Sort_int_none a cap w) ?_
   rw [show fW []=[] from aY (DZ []),show ints []=[] from rfl,td] at hK
   exact hK
  | cons v L =>
   have dX:ints (v :: L)≠[]:=by simp [ints]
   have Nf:ints (fW (v :: L))≠[]:=by
    intro e
    have:=congrArg List.length e
    rw [kV,DZ] at this;simp at this
   rw [Cs dX,Bm dX,kV]
   rw [Bm Nf] at hK
   exact aq.AV (zs:=v :: L) (ts:=fW (v :: L)) Tryz.func225 rfl rfl rfl (DZ _) (fun w cf off cap hH hb=>Tryz.slices_Sort_int cf off cap _ w hH hb (by omega)) (fun a cap w=>Tryz.slices_Sort_int_none a cap w) hK
 refine aK.go 1000 ?_
 simp only [go_sem]
 refine kg _ ?_
 refine aK.go 1000 ?_
 simp only [go_sem]
 rw [fL,YI (l':=ints (fW L)) (by rw [kV,kV,DZ])]
 exact ⟨[some (.var [.pm (ints kv) vs]),none,none,eJ (ints (fW L))],by simp [go_sem],by simp,⟨⟨⟨dp _,ie (av _) me⟩,trivial⟩,trivial,trivial,zU _ (dp _),trivial⟩,Bl (show 3<4 by decide) 1 _,rfl,rfl⟩
end Go.Proofs
namespace Go.cV
open Go
section
variable {P:Program} {lo:Ctx} {Q:cb→St→Prop} {tm:List ae} {σ:ai} {q:Nat} {ks vs:List ae} {fz:Bool}
theorem OP {X:Nat→Nat→Prop} {base mb:Nat} {D:List Deferred} {β:Env} {a:Act} {w:World} (hb:bF σ q=some (.map ks vs fz)) (h3:Rel X base mb D ⟨tm,σ⟩ β a w):Rel X base mb D ⟨tm.map (pF q ks vs),σ.set q none⟩ β a w:=by
 refine ⟨h3.s.less (fun c x hc=>(Em hc).2) bh,by simpa using h3.n,fun k hk=>?_,h3.d⟩
 simp only [ao] at hk
 have:=LU h3.s (jU hb) (h3.t k hk)
 simpa [dm,hk] using this
theorem Od {n:Nat} {β β':Env} {w w':World} {σ':ai} (g3:Ext n (σ.set q none) β w σ' β' w'):Ext n σ β w σ' β' w' :=
 ⟨g3.os,g3.tape,g3.output,g3.size,fun g o v hc hn=>g3.cell g o v hc (fun hm=>hn (zY hm)),fun g hg hn=>g3.block g hg (fun o hm=>hn o (zY hm)),fun g o hm=>(g3.iC g o hm).imp zY id,g3.env⟩
theorem aK.Ai {all:Array Oper} {l:List Oper} {k:List KI} (hb:bF σ q=some (.map ks vs fz)) (he:aK P lo Q (.ops all l :: k) .normal ⟨tm.map (pF q ks vs),σ.set q none⟩):aK P lo Q (.ops all l :: k) .normal ⟨tm,σ⟩:=by
 simp only [aK] at he ⊢
 refine fun hs=>?_
 intro X base mb D β a w b k cs h1 h2 h3
 obtain ⟨e1,ka,eS,a1,w1,q,g1,g2,g3,g4⟩:=(he hs) X base mb D β a w b k cs (by simpa using h1) h2 (OP hb h3)
 exact ⟨e1,ka,eS,a1,w1,q,g1,g2,Od g3,g4⟩
end
section
variable {q:Nat} {ks vs:List ae}
@[go_sem] theorem Xai {b o:Nat}:pF q ks vs (.ptr b o) = .ptr b o:=rfl
@[go_sem] theorem Xbf {b o n s:Nat}:pF q ks vs (.os b o n s) = .os b o n s:=rfl
@[go_sem] theorem Yxw:pF q ks vs .undef = .undef:=rfl
@[go_sem] theorem Yyp {b:Bool}:pF q ks vs (.bool b) = .bool b:=rfl
@[go_sem] theorem Xaq {k:IntKind} {n:Int}:pF q ks vs (.int k n) = .int k n:=rfl
@[go_sem] theorem Xay {s:Nat} {l:List ae}:pF q ks vs (.ps s l) = .ps s l:=rfl
@[go_sem] theorem Yyx:pF q ks vs .aU = .aU:=rfl
@[go_sem] theorem Xa3 {l:List ae}:pF q ks vs (.agg l) = .agg l:=rfl
@[go_sem] theorem Yz9 {l:List ae}:pF q ks vs (.dy l) = .dy l:=rfl
@[go_sem] theorem Xa7:pF q ks vs (.map q) = .pm ks vs:=if_pos rfl
@[go_sem] theorem Xch {g:FuncId} {a c:List ae}:pF q ks vs (.fn g a c) = .fn g a c:=rfl
end
theorem aq.l7 {P:Program} {F:Frame→List Frame→Sem Next→World→Value→World→Prop} {f f':ae} {args args':List ae} {K K':ae→ai→Prop} {Z σ:ai} (ι:Nat→Nat) (tA:∀ b b',b<Z.length→b'<Z.length→ι b = ι b'→b=b') (hb:∀ b,b<Z.length→ι b < σ.length)
  (vI:∀ b,b<Z.length→∃ o,Z[b]? = some o∧σ[ι b]? = some (o.map (dG ι))) (hf:f.low Z.length) (nU:dI ι f=f') (ha:bx Z.length args) (ha':dY ι args=args') (hs:bt Z.length Z)
  (h:dt P F f args Z K') (hk:∀ r Z',K' r Z'→Z.length≤Z'.length∧bt Z'.length Z'∧r.low Z'.length∧K (dI (mX ι Z.length σ.length) r) (jJ ι Z.length Z' σ)):dt P F f' args' σ K:=by
 have:=aq.xO (K:=K) ι tA hb vI hf ha hs (h.mono hk)
 rwa [nU,ha'] at this
section
variable {P:Program} {lo:Ctx} {Q:cb→St→Prop} {tm:List ae} {σ:ai} {q b:Nat} {ks vs cs:List ae} {fz:Bool} {X:Nat→Nat→Prop} {base:Nat} {β:Env} {w:World}
theorem cF.DI (hr:cF X base σ β w) {b:Nat} {x y:bE} (hb:bF σ b=some x) (hm:∀ L o,y.mut L o↔x.mut L o) (j8:∀ L,β b=some L→fR w (MT X σ β) β L x→fR w (MT X σ β) β L y):cF X base (b_ σ b y) β w:=by
 have mY:=jU hb
 have bD:b < σ.length:=(aH.1 mY).1
 have h_:b_ σ b y = σ.set b (some y):=by unfold b_;rw [if_pos bD]
 have hM:MT X (b_ σ b y) β=MT X σ β:=funext fun g=>funext fun o=>propext (by unfold MT;rw [zP hb hm])
 have eH:∀ c z,(b_ σ b y)[c]? = some (some z)→(c=b∧z=y)∨σ[c]? = some (some z):=fun c z h=>by
  rw [h_,dT] at h
  split at h
  ·rename_i e;subst e;cases h;exact .inl ⟨rfl,rfl⟩
  ·exact .inr h
 have ux:∀ c z,(b_ σ b y)[c]? = some (some z)→∃ z',σ[c]? = some (some z'):=fun c z h=>by
  rcases eH c z h with ⟨rfl,rfl⟩ | h
  ·exact ⟨x,mY⟩
  ·exact ⟨z,h⟩
 refine ⟨fun c hc=>hr.nC c (by rw [DX hb] at hc;exact hc),fun c z hc=>?_,fun c c' z z' L L' h1 h2 h3 h4 h5=>?_,hr.size,hr.p6,hr.gl⟩
 ·rw [hM]
  rcases eH c z hc with ⟨rfl,rfl⟩ | h
  ·obtain ⟨L,q1,q2,q3,q4⟩:=hr.cf c x mY
   exact ⟨L,q1,q2,q3,j8 L q1 q4⟩
  ·exact hr.cf c z h
 ·obtain ⟨u,hu⟩:=ux c z h1
  obtain ⟨u',uV⟩:=ux c' z' h2
  exact hr.inj c c' u u' L L' hu uV h3 h4 h5
theorem Ylh {mb:Nat} {D:List Deferred} {a:Act} (hq:bF σ q=some (.map ks vs fz)) (hb:bF σ b=some (.var cs)) (dX:b≠q) (h3:Rel X base mb D ⟨tm,σ⟩ β a w) :
  Rel X base mb D ⟨tm.map (pF q ks vs),b_ (σ.set q none) b (.var (cs.map (pF q ks vs)))⟩ β a w:=by
 have h1:=OP hq h3
 have qJ:bF (σ.set q none) b=some (.var cs):=by rw [bF,bK (fun e=>dX e.symm)];exact hb
 have hm:∀ L o,(bE.var (cs.map (pF q ks vs))).mut L o↔(bE.var cs).mut L o:=fun L o=>by simp [bE.mut]
 have hM:MT X (b_ (σ.set q none) b (.var (cs.map (pF q ks vs)))) β=MT X (σ.set q none) β:=funext fun g=>funext fun o=>propext (by unfold MT;rw [zP qJ hm])
 refine ⟨cF.DI h1.s qJ hm fun L hL j8=>?_,h1.n,fun k hk=>by rw [hM];exact h1.t k hk,h1.d⟩
 obtain ⟨c,e,k1,k2,k3,k4⟩:=j8
 refine ⟨c,e,k1,k2,by simpa using k3,fun k hk=>?_⟩
 simp only [ao] at hk
 have k5:=k4 k hk
 have hg:(cs.map (pF q ks vs)).getD k .undef=pF q ks vs (cs.getD k .undef):=by simp [List.getD,hk]
 rw [hg]
 generalize cs.getD k .undef=x at k5
 generalize c.getD k undef=vv at k5
 cases x with
 | map c' =>
  refine LU h3.s (jU hq) ?_
  cases k5 with
  | map hh=>exact .map hh
 | _=>exact k5
theorem Yil {n:Nat} {β':Env} {w':World} {σ':ai} (hb:bF σ b=some (.var cs)) (dX:b≠q) (g3:Ext n (b_ (σ.set q none) b (.var (cs.map (pF q ks vs)))) β w σ' β' w'):Ext n σ β w σ' β' w':=by
 have qJ:bF (σ.set q none) b=some (.var cs):=by rw [bF,bK (fun e=>dX e.symm)];exact hb
 exact Od (Ext.uD qJ (fun L o=>by simp [bE.mut]) g3)
theorem aK.FX {all:Array Oper} {l:List Oper} {k:List KI} (hq:bF σ q=some (.map ks vs fz)) (hb:bF σ b=some (.var cs)) (dX:b≠q)
  (he:aK P lo Q (.ops all l :: k) .normal ⟨tm.map (pF q ks vs),b_ (σ.set q none) b (.var (cs.map (pF q ks vs)))⟩):aK P lo Q (.ops all l :: k) .normal ⟨tm,σ⟩:=by
 have qJ:bF (σ.set q none) b=some (.var cs):=by rw [bF,bK (fun e=>dX e.symm)];exact hb
 simp only [aK] at he ⊢
 refine fun hs=>?_
 intro X base mb D β a w b k cs h1 h2 h3
 obtain ⟨e1,ka,eS,a1,w1,q,g1,g2,g3,g4⟩:=(he hs) X base mb D β a w b k cs (by simp only;rw [DX qJ];simpa using h1) h2 (Ylh hq hb dX h3)
 exact ⟨e1,ka,eS,a1,w1,q,g1,g2,Yil hb dX g3,g4⟩
end
end Go.cV
namespace Go.Proofs
open Go Go.cV
attribute [local go_sem] Nat.reduceAdd Nat.reduceSub Nat.reduceMul Nat.reduceLeDiff Nat.reduceEqDiff Nat.reduceBEq Nat.reduceLT Nat.le_refl Int.natCast_zero Nat.sub_zero List.length_map Int.toNat_natCast Int.natCast_one Int.reduceEq Int.reduceLT Int.reduceLE Int.reduceNe Int.sub_zero Int.zero_add Int.toNat_one
def iD (l:List Tm):Bool:=l.any fun t=>!decide (t.check=0)
theorem W6 (t:Tm) (ht:t.size<99999999) (σ:ai) (hs:bt σ.length σ):aq Tryz.prog (.fn 145 [] []) [t.aN] σ (fun r σ'=>r = .bool (!decide (t.check=0))∧σ' = σ):=by
 have h:aJ Tryz.prog 145 [t.aN] (.bool (!decide (t.check=0))):=by
  refine aJ.begin (rs:=[.tmp 2]) (m:=5) 1000 Tryz.func145 rfl rfl rfl (by decide) trivial ?_
  have rE:=Ch t (by omega)
  simp only [go_sem,fq]
  refine aq.bU [] (rE) (by (try simp only [dc]);exact cH _ _ _) (by simp [go_sem,dE,bP]) ?_;simp only [bL,bZ,bX,if_true];refine aK.go 1000 ?_
  by_cases h:t.check=0
  ·simp only [go_sem,h]
  ·simp only [go_sem,h]
 refine aq.bU [] h (cH _ _ _) (by simp [go_sem,dE]) ?_
 rw [jd];simp only [ite_self]
 exact ⟨trivial,trivial⟩
theorem KF (l:List Tm) (hl:l.length<99999999) (ht:∀ t∈l,t.size<99999999):aJ Tryz.prog 112 [.ps 2 (l.map Tm.aN)] (.bool (iD l)):=by
 refine aJ.begin (rs:=[.tmp 2]) (m:=4) 1000 Tryz.func112 rfl rfl rfl (by decide) trivial ?_
 simp only [go_sem]
 refine (JK [] (.fn 145 [] []) (fun t=>!decide (t.check=0)) l (by omega) trivial ⟨trivial,trivial⟩ (fun i h=>W6 _ (ht _ (aF h)) [] trivial)).mono ?_
 rintro r σ' ⟨rfl,rfl⟩
 refine aK.go 1000 ?_
 simp only [go_sem,iD]
def yV (s:List (Tm×Tm)):Prop:=∀ x∈s,x.1.fit∧x.2.fit∧x.2.size<99999999
def BX (m:List Bd):Prop:=∀ b∈m,0≤b.v∧b.v≤9223372036854775807∧b.t.fit∧b.t.size<99999999
theorem XX {x:Tm×Tm} {r:List (Tm×Tm)} (h:yV (x :: r)):yV ((x.1.args.zip x.2.args).reverse++r):=by
 intro y hy
 obtain ⟨h1,h2,h3⟩:=h x (by simp)
 rcases aX.1 hy with hy | hy
 ·have hy:=cX.1 hy
  have a1:=tb (c_ hy).2
  have a2:=oA x.2
  exact ⟨wJ (xm h1) _ (c_ hy).1,wJ (xm h2) _ (c_ hy).2,by omega⟩
 ·exact h y (by simp [hy])
theorem PQ:∀ (s:List (Tm×Tm)) (m m':List Bd),gV s m=some m'→yV s→BX m→(m.map Bd.v).Nodup→BX m'∧(m'.map Bd.v).Nodup∧m'.length≤m.length+lq s:=by
 intro s m
 induction s,m using gV.induct with
 | case1 m =>
  intro m' h h1 h2 h3
  rw [gV] at h
  cases h
  exact ⟨h2,h3,by simp [lq]⟩
 | case2 x r m hv c hf he ih =>
  intro m' h h1 h2 h3
  rw [gV,if_pos hv,hf] at h
  simp only [if_pos he] at h
  obtain ⟨a1,a2,a3⟩:=ih m' h (fun y hy=>h1 y (by simp [hy])) h2 h3
  exact ⟨a1,a2,by simp only [lq];omega⟩
 | case3 x r m hv c hf he =>
  intro m' h
  rw [gV,if_pos hv,hf] at h
  simp only [if_neg he] at h
  cases h
 | case4 x r m hv hf ih =>
  intro m' h h1 h2 h3
  rw [gV,if_pos hv,hf] at h
  simp only at h
  obtain ⟨b1,b2,b3⟩:=h1 x (by simp)
  have Eu:=Fi b1
  unfold n8 at Eu
  have hp:=zM x.1
  obtain ⟨a1,a2,a3⟩:=ih m' h (fun y hy=>h1 y (by simp [hy])) (fun b hb=>by
   rcases aX.1 hb with hb | hb
   ·exact h2 b hb
   ·rw [aQ.1 hb];exact ⟨hv,by simp only;omega,b2,b3⟩) (by
   rw [cN,gB]
   refine ⟨h3,by simp,fun u hu w hw=>?_⟩
   simp only [aI,aS,aQ] at hw
   subst hw
   obtain ⟨b,hb,rfl⟩:=bW.1 hu
   intro e
   exact absurd (by simpa using e) (j_.1 hf b hb))
  refine ⟨a1,a2,?_⟩
  simp only [lq,ay,au,aR] at a3 ⊢;omega
 | case5 x r m hv hc =>
  intro m' h
  rw [gV,if_neg hv,if_pos hc] at h
  cases h
 | case6 x r m hv hc ih =>
  intro m' h h1 h2 h3
  rw [gV,if_neg hv,if_neg hc] at h
  obtain ⟨a1,a2,a3⟩:=ih m' h (XX h1) h2 h3
  have:=Fa x.1 x.2 r
  exact ⟨a1,a2,by simp only [lq];omega⟩
theorem Ymm {a b:List Tm} (Bw:Tm.fits a) (zk:Tm.fits b) (tx:Tm.bG b<99999999):yV (a.zip b).reverse:=fun x hx=>by
 have hx:=cX.1 hx
 have:=tb (c_ hx).2
 exact ⟨wJ Bw _ (c_ hx).1,wJ zk _ (c_ hx).2,by omega⟩
theorem UA (σ:ai) (b sz:Nat) (l:List ae):ng .slice σ (ja b sz l)=some l.length:=by
 cases l<;>rfl
theorem Ztg (bs:List Bd) (v:Int) (z:ae):eQ (fj bs) (fN bs) z (.int .i64 v) false=match bs.find? (fun b=>b.v==v) with | some b=>b.t.aN | none=>z:=by
 have h:=E3 v bs 0
 unfold eQ
 cases hk:e8 (.int .i64 v) (fj bs) 0 with
 | some i =>
  rw [hk] at h
  obtain ⟨_,b,h2,h3⟩:=h
  rw [h3]
  simp only [a8,if_false,fN,List.getD,cd]
  rw [gE] at h2
  rw [h2];rfl
 | none =>
  rw [hk] at h
  rw [show bs.find? (fun b=>b.v==v)=none from h];rfl
def iV (m:List Bd) (ks:List Int):List Bd:=ks.filterMap fun v=>match m.find? (fun c=>c.v==v) with | some c=>if c.t.head = -1 - v then none else some ⟨v,c.t⟩ | none=>none
def gG (a b:List Tm):List Bd×Bool×Int :=
 if a.length≠b.length∨iD a=true∨iD b=true then ([],false,1) else
  match gV (a.zip b).reverse [] with
  | none=>([],false,0)
  | some m=>(iV m (fW (m.map Bd.v)),true,0)
theorem Yip (kv:List Int) (vs:List ae) (me:bx 0 vs) (σ:ai) (hs:bt σ.length σ):aq Tryz.prog (.fn 210 [] []) [.pm (ints kv) vs] σ
  (fun r σ'=>r = .fn 226 [] [.ptr σ.length 0]∧σ' = σ++[some (.var [.pm (ints kv) vs])]):=by
 refine aq.begin (rs:=[.tmp 2]) (m:=3) 1000 Tryz.func210 rfl rfl rfl rfl rfl ?_
 simp only [go_sem]
 rw [Bf,fL]
 exact ⟨_,fx _,by simp,o9 (nA (by simp) hs) ⟨⟨⟨dp _,ie (av _) me⟩,trivial⟩,trivial⟩,by simp [go_sem],rfl,rfl⟩
theorem RH (m:List Bd):fj m=ints (m.map Bd.v):=by simp [fj,ints]
theorem Ynr (a b:List Tm) (dX:a≠[]) (hs:Tm.bG a<99999999) (tx:Tm.bG b<99999999) (Bw:Tm.fits a) (zk:Tm.fits b) :
  aJ Tryz.prog 188 [.ps 2 (a.map Tm.aN), .ps 2 (b.map Tm.aN)] (.dy [.ps 3 (nR (gG a b).1), .bool (gG a b).2.1, .int .i64 (gG a b).2.2]):=by
 refine aJ.begin (rs:=[.tmp 4, .tmp 5, .tmp 6]) (m:=53) 1000 Tryz.func188 rfl rfl rfl (by decide) (by simp [go_sem]) ?_
 have l9:=qb a
 have vY:=qb b
 have hwa:=KF a (by omega) (fun t ht=>by have:=tb ht;omega)
 have VO:=KF b (by omega) (fun t ht=>by have:=tb ht;omega)
 by_cases h1:a.length=b.length
 ·have nD:(a.length:Int)=b.length:=by omega
  simp only [go_sem,ao,nD]
  refine aq.bU [] (hwa) (cH _ _ _) (by simp [go_sem,bP]) ?_;simp only [bL,bZ,bX,if_true];refine aK.go 1000 ?_
  cases h2:iD a with
  | true =>
   have hm:gG a b=([],false,1):=by unfold gG;rw [if_pos (.inr (.inl h2))]
   rw [hm]
   simp only [go_sem,show nR []=[] from rfl]
  | false =>
   simp only [go_sem]
   refine aq.bU [] (VO) (cH _ _ _) (by simp [go_sem,bP]) ?_;simp only [bL,bZ,bX,if_true];refine aK.go 1000 ?_
   cases h3:iD b with
   | true =>
    have hm:gG a b=([],false,1):=by unfold gG;rw [if_pos (.inr (.inr h3))]
    rw [hm]
    simp only [go_sem,show nR []=[] from rfl]
   | false =>
    have hm:gG a b=match gV (a.zip b).reverse [] with | none=>([],false,0) | some m=>(iV m (fW (m.map Bd.v)),true,0):=by
     unfold gG;rw [if_neg (by simp [h1,h2,h3])]
    rw [hm]
    simp only [go_sem]
    refine (Zt _ a b rfl dX h1 hs tx Bw zk).mono ?_
    cases hg:gV (a.zip b).reverse [] with
    | none =>
     intro r σ' hr
     obtain rfl:r = .bool false:=hr
     refine aK.go 1000 ?_
     simp only [go_sem,show nR []=[] from rfl]
    | some m =>
     rintro r σ' ⟨rfl,rfl⟩
     refine aK.Ai (q:=0) (ks:=fj m) (vs:=fN m) (fz:=false) rfl ?_
     refine aK.go 1000 ?_
     simp only [go_sem,aI,aS]
     rw [RH]
     refine (Yip _ _ (iE m).2 [none] ⟨trivial,trivial⟩).mono ?_
     rintro r σ' ⟨rfl,rfl⟩
     refine aK.go 1000 ?_
     simp only [go_sem]
     obtain ⟨j8,oS,GF⟩:=PQ _ _ _ hg (Ymm Bw zk tx) (fun b hb=>by cases hb) (by simp)
     have hzl:=IA a b
     rw [Ir,aR] at GF
     have hml:(m.map Bd.v).length<100000000:=by rw [ao];omega
     have Df:∀ v∈fW (m.map Bd.v), ∃ c,m.find? (fun c=>c.v==v)=some c∧c.v=v∧c∈m:=fun v hv=>by
      have hv:=(jG _ _).mem_iff.1 hv
      obtain ⟨c,hc,rfl⟩:=bW.1 hv
      cases hf:m.find? (fun d=>d.v==c.v) with
      | none=>exact absurd (by simp) (j_.1 hf c hc)
      | some d=>exact ⟨d,rfl,by simpa using gy hf,bQ hf⟩
     have hso:=Zza (m.map Bd.v) (fN m) (iE m).2 hml
     generalize hkv:m.map Bd.v=kv at *
     refine aq.xO (f:=.fn 209 [] []) (args:=[.fn 226 [] [.ptr 0 0]]) (Z:=[some (.var [.pm (ints kv) (fN m)])]) (fun b=>b+1) (fun b b' h1 h2 e=>by omega) (fun b hb=>by simp at hb;subst hb;simp) (fun b hb=>?_) ⟨trivial,trivial⟩ ⟨⟨trivial,⟨Nat.zero_lt_succ 0,trivial⟩⟩,trivial⟩ ⟨⟨⟨dp _,(iE m).2⟩,trivial⟩,trivial⟩ (hso.mono ?_)
     ·simp at hb;subst hb
      refine ⟨_,rfl,?_⟩
      simp [dG,dY,dI,cz (dp _),cz (iE m).2]
     rintro r σ' ⟨rfl,rfl⟩
     refine ⟨by simp,⟨⟨⟨dp _,ie (av _) (iE m).2⟩,trivial⟩,trivial,trivial,zU _ (dp _),trivial⟩,Bl (show 3<4 by decide) 1 _,?_⟩
     simp only [go_sem,jJ,fc,mX,aI,aS]
     rw [cz (dp _),cz (iE m).2]
     have yu:Option.map (dG (mX (fun b=>b+1) 1 2)) (eJ (ints (fW kv)))=eJ (ints (fW kv)):=by
      cases hq:ints (fW kv) with
      | nil=>rfl
      | cons x l =>
       have wW:bx 0 (ints (fW kv)):=dp _
       rw [UN,bw,xk,← hq,cz wW]
     rw [yu]
     refine aK.go 1000 ?_
     simp only [go_sem,UA,kV]
     obtain ⟨K,hK⟩:∃ K,fW kv=K:=⟨_,rfl⟩
     have hKl:K.length=kv.length:=by rw [← hK,DZ]
     rw [hK] at Df ⊢
     refine aK.gS (ι:={q:Nat×List Bd // q.1≤K.length∧q.2++iV m (K.drop q.1)=iV m K∧q.2.length≤q.1}) 1000
      (fun q=>fD 55 [(4, .aU),(5, .bool false),(6, .int .i64 0),(7, .pm (ints kv) (fN m)),(8,ja 5 3 (nR q.1.2)),(32,ja 4 1 (ints K)),(33, .int .i64 K.length),(34, .int .i64 q.1.1)])
      (fun q=>[none,none,none,none,eJ (ints K),eJ (nR q.1.2)]) (fun q=>K.length - q.1.1) ⟨(0,[]),by simp⟩ [] ?_ (fun _=>av _) ?_
     ·refine iF rfl ?_
      simp only [go_sem,show nR []=[] from rfl,tK,td,(iE m).2,ie (av 6) (iE m).2,dp,cz (iE m).2,cz (dp _)]
     ·rintro ⟨⟨i,L⟩,hi,aO,Al⟩
      simp only at hi aO Al
      by_cases bD:(i:Int)<K.length
      ·have aZ:i<K.length:=by omega
       have hw:IntKind.i64.wrap ((i:Int)+1)=((i+1:Nat):Int):=by rw [ep (by omega)];omega
       have AB:ints K≠[]:=by intro e;have:=congrArg List.length e;rw [kV] at this;simp at this;rw [this] at aZ;simp at aZ
       have Gj:=wH aZ
       obtain ⟨c,rD,kY,Aq⟩:=Df _ (aF aZ)
       rw [ak aZ] at aO
       obtain ⟨v,hv⟩:∃ v,K[i]=v:=⟨_,rfl⟩
       rw [hv] at Gj rD kY aO
       obtain ⟨o1,o2,o3,o4⟩:=j8 c Aq
       have tz:IntKind.i64.wrap (-1 - v) = -1 - v:=ep (by omega)
       have oQ:=Ztg m v (.agg [.int .i64 0, .aU])
       rw [rD] at oQ
       simp only at oQ
       have sQ:=y5 m v
       rw [RH,hkv] at oQ sQ
       by_cases qO:c.t.head = -1 - v
       ·have NF:iV m (v :: K.drop (i+1))=iV m (K.drop (i+1)):=by simp [iV,rD,qO]
        rw [NF] at aO
        simp only [go_sem,bD,Cs AB,Bm AB,kV,Gj,sQ,oQ,dc,tz,qO,hw]
        refine ⟨by omega,aZ,⟨(i+1,L),by simp only;omega,aO,by simp only;omega⟩,[],iF rfl ?_,by simp only;omega⟩
        simp only [go_sem,(iE m).2,ie (av 6) (iE m).2,dp,cz (iE m).2,cz (dp _),Ek,HO (of_eq_true (Ek L))]
       ·have NF:iV m (v :: K.drop (i+1))=⟨v,c.t⟩ :: iV m (K.drop (i+1)):=by simp [iV,rD,qO]
        rw [NF] at aO
        simp only [go_sem,bD,Cs AB,Bm AB,kV,Gj,sQ,oQ,dc,tz,qO,hw]
        have h5:bF [none,none,none,none,some (bE.row (ints K) 0),eJ (nR L),some (bE.row [.agg [.int .i64 v, .int .i64 c.t.head, .ps 2 (c.t.args.map Tm.aN)]] 0)] 5=eJ (nR L):=rfl
        have m8:eL ⟨3,true,40,[.int .i64 0, .int .i64 0, .aU], .struct⟩ [.agg [.int .i64 v, .int .i64 c.t.head, .ps 2 (c.t.args.map Tm.aN)]]:=⟨fun y hy=>by rw [aQ.1 hy];exact ⟨rfl,rfl⟩,by decide,by decide,rfl⟩
        refine ⟨by omega,aZ,?_⟩
        simp only [go_sem,uQ h5,m8,Bj,hw]
        refine ⟨by omega,⟨(i+1,L++[⟨v,c.t⟩]),by simp only;omega,by rw [← aO,cJ];rfl,by simp only [ay,au,aR];omega⟩,[(5,7),(7,5)],iF rfl ?_,by simp only;omega⟩
        dsimp only
        have hba:nR (L++[⟨v,c.t⟩])=nR L++[.agg [.int .i64 v, .int .i64 c.t.head, .ps 2 (c.t.args.map Tm.aN)]]:=by simp [nR,Bd.aN]
        have lw:bx 0 (nR (L++[⟨v,c.t⟩])):=of_eq_true (Ek _)
        rw [hba] at lw ⊢
        rw [Fe,E_]
        simp only [go_sem,(iE m).2,ie (av 6) (iE m).2,dp,cz (iE m).2,cz (dp _),cz lw,ie (av 6) lw,Bj]
      ·have dR:i=K.length:=by omega
       subst dR
       rw [aV] at aO
       simp only [go_sem,bD]
       refine aK.go 1000 ?_
       simp only [go_sem]
       rw [← aO,show iV m []=[] from rfl,bn]
       rw [rN rfl rfl];trivial
 ·have nD:¬ (a.length:Int)=b.length:=by omega
  have hm:gG a b=([],false,1):=by unfold gG;rw [if_pos (.inl h1)]
  rw [hm]
  simp only [go_sem,ao,nD,show nR []=[] from rfl]
theorem Xa (a b:Tm) (ha:a.size<99999999) (hb:b.size<99999999) (Bw:a.fit) (zk:b.fit) :
  aJ Tryz.prog 169 [a.aN,b.aN] (.dy [.ps 3 (nR (gG [a] [b]).1), .bool (gG [a] [b]).2.1, .int .i64 (gG [a] [b]).2.2]):=by
 refine aJ.begin (rs:=[.tmp 4, .tmp 5, .tmp 6]) (m:=13) 1000 Tryz.func169 rfl rfl rfl (by decide) (by simp [go_sem]) ?_
 have eX:=Ynr [a] [b] (by simp) (by simpa [Tm.bG] using ha) (by simpa [Tm.bG] using hb) ⟨Bw,trivial⟩ ⟨zk,trivial⟩
 generalize gG [a] [b]=z at *
 simp only [go_sem,fq]
 refine aq.bU [2,3] eX ?_ (by simp [go_sem,dE]) ?_
 ·simp only [go_sem,dc,aI,aS]
 generalize bL _=fl
 cases fl
 ·simp only [a8,if_false]
  refine aK.go 1000 ?_
  simp only [go_sem]
 ·simp only [if_true]
  refine aK.go 1000 ?_
  simp only [go_sem]
structure mG where
 i:Int
 rt:Bool
 p:List Int
 t:Tm
def mG.aN (s:mG):ae:=.agg [.int .i64 s.i, .bool s.rt, .ps 1 (ints s.p), .int .i64 s.t.head, .ps 2 (s.t.args.map Tm.aN)]
theorem Kg (s:mG):s.aN.cells=[.int .i64 s.i, .bool s.rt, .ps 1 (ints s.p), .int .i64 s.t.head, .ps 2 (s.t.args.map Tm.aN)]:=rfl
theorem Yre {n:Nat} (s:mG):s.aN.low n:=⟨trivial,trivial,dp _,trivial,bP _,trivial⟩
def Li.side (l:Li) (rt:Bool):Tm:=if rt then l.r else l.l
def Li.sW (l:Li) (rt:Bool) (u:Tm):Li:=if rt then ⟨l.neg,l.l,u⟩ else ⟨l.neg,u,l.r⟩
def kL (c:List Li) (s:mG) (u:Tm):List Li:=match c[s.i.toNat]? with
 | some l=>c.set s.i.toNat (l.sW s.rt ((l.side s.rt).k_ s.p u))
 | none=>c
theorem Ypt (c:List Li) (s:mG) (u v:Tm) (i:Nat) (h:i<c.length) (hi:s.i=i) (hv:(c[i].side s.rt).po s.p=some v) (hl:c.length≤1000000) (hp:s.p.length≤1000000) (hs:(c[i].side s.rt).size≤1000000) :
  aJ Tryz.prog 142 [.ps 5 (lits c),s.aN,u.aN] (.ps 5 (lits (kL c s u))):=by
 refine aJ.begin (rs:=[.tmp 6]) (m:=43) 1000 Tryz.func142 rfl rfl rfl (by decide) (ct _) ?_
 have dX:c≠[]:=by intro e;subst e;simp at h
 have lS:=Yqv (c[i].side s.rt) s.p u v hp hs hv
 have lR:=tG h
 have hpc:kL c s u=c.set i (c[i].sW s.rt ((c[i].side s.rt).k_ s.p u)):=by
  unfold kL
  rw [hi,bV,aA h]
 rw [hpc]
 generalize c[i]=l at *
 simp only [go_sem,Kg,fq]
 refine aq.sT [] (Hz c dX (by omega)) (cH _ _ _) (by simp [go_sem,ct]) ?_
 rw [jd]
 simp only [zV,zW,z7,xk,z8,up,cz (ct _)]
 refine aK.go 1000 ?_
 cases hr:s.rt with
 | true =>
  rw [hr] at lS
  simp only [go_sem,hi,fO,lR,ku]
  refine ⟨⟨by omega,by omega⟩,?_⟩
  refine aK.draw [.no, .no, .no, .no, .no, .no, .no, .no, .no, .no, .no,⟨none,[],[3]⟩, .no, .no,⟨none,[3],[]⟩] 4 4 mixed rfl rfl (by decide) ?_
  simp only [go_sem,dA,lR,ku,fO,h]
  refine nQ lS (by simp only [Li.side,dc,if_true,a8,if_false];exact cH _ _ _) (by simp [go_sem,dE,dp]) ?_
  generalize hy:(l.side true).k_ s.p u=y at *
  simp only [go_sem,fq,lR,ku,fO,h]
  have he:(lits c).set i (jj (cL l.aN) [.bool l.neg, .int .i64 l.l.head, .ps 2 (l.l.args.map Tm.aN), .int .i64 y.head, .ps 2 (y.args.map Tm.aN)])=lits (c.set i (l.sW true y)):=by
   rw [show jj (cL l.aN) [.bool l.neg, .int .i64 l.l.head, .ps 2 (l.l.args.map Tm.aN), .int .i64 y.head, .ps 2 (y.args.map Tm.aN)]=(l.sW true y).aN from rfl]
   simp [lits,List.map_set]
  rw [he]
  refine ⟨by omega,?_⟩
  refine aK.go 1000 ?_
  simp only [go_sem,fO,bh]
  rw [bd (by rw [fO,bh];exact ah _)]
  exact cH _ _ _
 | false =>
  rw [hr] at lS
  simp only [go_sem,hi,fO,lR,ku]
  refine ⟨⟨by omega,by omega⟩,?_⟩
  refine aK.draw [.no, .no, .no, .no, .no, .no, .no, .no, .no, .no, .no,⟨none,[],[3]⟩, .no, .no,⟨none,[3],[]⟩] 4 4 mixed rfl rfl (by decide) ?_
  simp only [go_sem,dA,lR,ku,fO,h]
  refine nQ lS (by simp only [Li.side,dc,if_true,a8,if_false];exact cH _ _ _) (by simp [go_sem,dE,dp]) ?_
  generalize hy:(l.side false).k_ s.p u=y at *
  simp only [go_sem,fq,lR,ku,fO,h]
  have he:(lits c).set i (jj (cL l.aN) [.bool l.neg, .int .i64 y.head, .ps 2 (y.args.map Tm.aN), .int .i64 l.r.head, .ps 2 (l.r.args.map Tm.aN)])=lits (c.set i (l.sW false y)):=by
   rw [show jj (cL l.aN) [.bool l.neg, .int .i64 y.head, .ps 2 (y.args.map Tm.aN), .int .i64 l.r.head, .ps 2 (l.r.args.map Tm.aN)]=(l.sW false y).aN from rfl]
   simp [lits,List.map_set]
  rw [he]
  refine ⟨by omega,?_⟩
  refine aK.go 1000 ?_
  simp only [go_sem,fO,bh]
  rw [bd (by rw [fO,bh];exact ah _)]
  exact cH _ _ _
def la:List (Int×Int)→Int→Int→List (Int×Int)
 | [],k,s=>[(k,s)]
 | x :: r,k,s=>if x.1=k then (x.1,x.2+s) :: r else x :: la r k s
def fB:List (Int×Int)→Int→Int
 | [],_=>0
 | x :: r,k=>if x.1=k then x.2 else fB r k
def j0 (l:List (Int×Int)):List ae:=ints (l.map Prod.fst)
def lG (l:List (Int×Int)):List ae:=ints (l.map Prod.snd)
theorem rA {n:Nat} (l:List (Int×Int)):bx n (j0 l)∧bx n (lG l):=⟨dp _,dp _⟩
theorem Y2 (l:List (Int×Int)) (v:Int):(j0 l).all (sameKind (.int .i64 v))=true:=by simp [j0,ints,sameKind]
theorem HK (x:Int×Int) (r:List (Int×Int)):j0 (x :: r) = .int .i64 x.1 :: j0 r:=rfl
theorem HN (x:Int×Int) (r:List (Int×Int)):lG (x :: r) = .int .i64 x.2 :: lG r:=rfl
theorem J6 (k:Int):∀ (l:List (Int×Int)) (n:Nat),(match e8 (.int .i64 k) (j0 l) n with
  | some i=>n≤i∧(lG l).getD (i - n) .undef = .int .i64 (fB l k)∧∀ s,((j0 l)=j0 (la l k s)∧(lG l).set (i - n) (.int .i64 (fB l k+s))=lG (la l k s))
  | none=>fB l k=0∧∀ s,j0 l++[.int .i64 k]=j0 (la l k s)∧lG l++[.int .i64 s]=lG (la l k s))
 | [],n=>⟨rfl,fun s=>⟨rfl,rfl⟩⟩
 | x :: r,n=>by
  have ih:=J6 k r (n+1)
  rw [HK,HN]
  simp only [e8,fB,la]
  by_cases c:x.1=k
  ·have hc:fb (.int .i64 k) (.int .i64 x.1)=true:=by simp [fb,c]
   rw [hc,if_pos rfl]
   simp only [if_pos c]
   refine ⟨ah _,?_,fun s=>?_⟩
   ·simp [List.getD]
   ·rw [ei,HK,HN];exact ⟨rfl,rfl⟩
  ·have hc:fb (.int .i64 k) (.int .i64 x.1)=false:=by simp only [fb,beq_eq_false_iff_ne];exact fun e=>c e.symm
   rw [hc]
   simp only [a8,if_false,if_neg c]
   split at ih
   ·rename_i i _
    obtain ⟨h1,h2,h3⟩:=ih
    have hi:i - n=(i - (n+1))+1:=by omega
    refine ⟨by omega,?_,fun s=>?_⟩
    ·rw [hi,bB];exact h2
    ·obtain ⟨q1,q2⟩:=h3 s
     rw [hi,cZ,HK,HN,← q1,← q2];exact ⟨rfl,rfl⟩
   ·obtain ⟨h1,h2⟩:=ih
    refine ⟨h1,fun s=>?_⟩
    obtain ⟨q1,q2⟩:=h2 s
    rw [HK,HN,← q1,← q2];exact ⟨rfl,rfl⟩
theorem Zve (l:List (Int×Int)) (k:Int):eQ (j0 l) (lG l) (.int .i64 0) (.int .i64 k) false = .int .i64 (fB l k):=by
 have h:=J6 k l 0
 unfold eQ
 cases hk:e8 (.int .i64 k) (j0 l) 0 with
 | some i=>rw [hk] at h;simpa using h.2.1
 | none=>rw [hk] at h;simp only [a8,if_false];rw [h.1]
theorem Ztv (l:List (Int×Int)) (k s:Int):iM (j0 l) (lG l) (.int .i64 k) (.int .i64 (fB l k+s))=(j0 (la l k s),lG (la l k s)):=by
 have h:=J6 k l 0
 unfold iM
 cases hk:e8 (.int .i64 k) (j0 l) 0 with
 | some i=>rw [hk] at h;obtain ⟨q1,q2⟩:=h.2.2 s;simp only;rw [← q1,← q2,gE]
 | none=>rw [hk] at h;obtain ⟨q1,q2⟩:=h.2 s;simp only;rw [h.1,Int.zero_add,q1,q2]
def nu (g:List Sy) (h:Int):Int:=((g[h.toNat]?).map Sy.weight).getD 0
mutual
def rS (g:List Sy) (s:Int):Tm→Int×List (Int×Int)→Int×List (Int×Int)
 | .mk h ts,x=>if h<0 then (x.1+s,la x.2 h s) else ov g s ts (x.1+s*nu g h,x.2)
def ov (g:List Sy) (s:Int):List Tm→Int×List (Int×Int)→Int×List (Int×Int)
 | [],x=>x
 | t :: ts,x=>ov g s ts (rS g s t x)
end
mutual
def Tm.BS (g:List Sy):Tm→Prop
 | .mk h ts=>h<g.length∧Tm.yD g ts
def Tm.yD (g:List Sy):List Tm→Prop
 | []=>True
 | t :: ts=>t.BS g∧Tm.yD g ts
end
theorem Fb {g:List Sy} {t:Tm} (h:t.BS g):t.head<g.length:=by cases t;exact h.1
theorem Uk {g:List Sy} {t:Tm} (h:t.BS g):Tm.yD g t.args:=by cases t;exact h.2
theorem KV {g:List Sy}:∀ {ts:List Tm},Tm.yD g ts→∀ t∈ts,t.BS g
 | x :: ts,h,t,ht=>by
  rcases aP.1 ht with rfl | ht
  ·exact h.1
  ·exact KV h.2 t ht
def qj (B:Int) (x:Int×List (Int×Int)):Prop:=-B≤x.1∧x.1≤B∧∀ y∈x.2, -B≤y.2∧y.2≤B
theorem HT {B C:Int} {x:Int×List (Int×Int)} (h:qj B x) (hc:B≤C):qj C x:=⟨by have:=h.1;omega,by have:=h.2.1;omega,fun y hy=>⟨by have:=(h.2.2 y hy).1;omega,by have:=(h.2.2 y hy).2;omega⟩⟩
theorem O8 {B s:Int} (h0 : 0≤B) (hs:s=1∨s = -1):∀ (l:List (Int×Int)) (k:Int),(∀ y∈l, -B≤y.2∧y.2≤B)→∀ y∈la l k s, -(B+1)≤y.2∧y.2≤B+1
 | [],k,_,y,hy=>by rw [aQ.1 hy];simp only;omega
 | x :: r,k,h,y,hy=>by
  have hx:=h x (by simp)
  simp only [la] at hy
  split at hy
  ·rcases aP.1 hy with rfl | hy
   ·simp only;omega
   ·have:=h y (by simp [hy]);omega
  ·rcases aP.1 hy with rfl | hy
   ·omega
   ·exact O8 h0 hs r k (fun z hz=>h z (by simp [hz])) y hy
theorem UM {B:Int} (h0 : 0≤B):∀ (l:List (Int×Int)) (k:Int),(∀ y∈l, -B≤y.2∧y.2≤B)→-B≤fB l k∧fB l k≤B
 | [],k,_=>by simp only [fB];omega
 | x :: r,k,h=>by
  simp only [fB]
  split
  ·exact h x (by simp)
  ·exact UM h0 r k fun z hz=>h z (by simp [hz])
def tn (g:List Sy):Prop:=∀ s∈g, -1000000≤s.weight∧s.weight≤1000000
theorem Oq {g:List Sy} (hg:tn g) (h:Int) : -1000000≤nu g h∧nu g h≤1000000:=by
 unfold nu
 cases hq:g[h.toNat]? with
 | none=>simp
 | some s=>exact hg s (lK hq)
mutual
theorem IL {g:List Sy} (hg:tn g) {s:Int} (hs:s=1∨s = -1):∀ (t:Tm) (x:Int×List (Int×Int)) (B:Int),0≤B→qj B x→qj (B+1000000*t.size) (rS g s t x)
 | .mk h ts,x,B,h0,hx=>by
  rw [rS,Tm.size]
  have hw:=Oq hg h
  split
  ·refine HT (B:=B+1) ⟨?_,?_,O8 h0 hs _ _ hx.2.2⟩ (by omega)
   ·have:=hx.1;simp only;omega
   ·have:=hx.2.1;simp only;omega
  ·have h1:qj (B+1000000) (x.1+s*nu g h,x.2):=by
    refine ⟨?_,?_,fun y hy=>by have:=hx.2.2 y hy;omega⟩
    ·have:=hx.1;rcases hs with rfl | rfl<;>simp only<;>omega
    ·have:=hx.2.1;rcases hs with rfl | rfl<;>simp only<;>omega
   exact HT (Pa hg hs ts _ _ (by omega) h1) (by omega)
theorem Pa {g:List Sy} (hg:tn g) {s:Int} (hs:s=1∨s = -1):∀ (ts:List Tm) (x:Int×List (Int×Int)) (B:Int),0≤B→qj B x→qj (B+1000000*Tm.bG ts) (ov g s ts x)
 | [],x,B,h0,hx=>by rw [ov];exact HT hx (by simp [Tm.bG])
 | t :: ts,x,B,h0,hx=>by
  rw [ov,Tm.bG]
  exact HT (Pa hg hs ts _ _ (by omega) (IL hg hs t x B h0 hx)) (by omega)
end
def pY (x:Int×List (Int×Int)):ai:=[some (.map (j0 x.2) (lG x.2) false),some (.var [.int .i64 x.1, .map 0])]
theorem Pu (g:List Sy) (hg:tn g) (lR:g.length<1000000) (s:Int) (hs:s=1∨s = -1):∀ (n:Nat) (t:Tm) (x:Int×List (Int×Int)) (B:Int),t.size≤n→t.size<100000000→t.BS g→t.fit→0≤B→qj B x→B+1000000*t.size≤1000000000000000 →
  aq Tryz.prog (.fn 212 [] []) [.ptr 1 0, .ps 4 (syms g),t.aN, .int .i64 s] (pY x) (fun r σ'=>r = .dy []∧σ'=pY (rS g s t x))
 | 0,t,_,_,h,_,_,_,_,_,_=>by have:=oA t;omega
 | n+1,t,x,B,hn,ft,fh,hft,h0,hx,hB=>by
  unfold pY
  refine aq.begin (rs:=[]) (m:=54) 1000 Tryz.func212 rfl rfl rfl rfl rfl ?_
  have AG:=oA t
  have l9:=qb t.args
  obtain ⟨x1,x2,x3⟩:=hx
  have hih:=Fb fh
  by_cases fM:t.head<0
  ·have qR:rS g s t x=(x.1+s,la x.2 t.head s):=by cases t;rw [rS];exact if_pos fM
   have rR:IntKind.i64.wrap (x.1+s)=x.1+s:=ep (by rcases hs with rfl | rfl<;>omega)
   have iL:=UM h0 x.2 t.head x3
   have re:IntKind.i64.wrap (fB x.2 t.head+s)=fB x.2 t.head+s:=ep (by rcases hs with rfl | rfl<;>omega)
   rw [qR]
   simp only [go_sem,fq,fM,rR]
   refine aK.draw [.no, .no, .no, .no, .no, .no, .no, .no, .no,⟨none,[0],[]⟩] 3 3 mixed rfl rfl (by decide) ?_
   simp only [go_sem,dA,Y2,Zve,re,Ztv]
   refine aK.go 1000 ?_
   simp only [go_sem]
   rw [fL]
   exact ⟨pY (x.1+s,la x.2 t.head s),by simp [pY,go_sem],by simp [pY],by simp [pY,go_sem,rA],trivial,rfl,rfl⟩
  ·simp only [go_sem,fq,fM]
   have Vs:t.head.toNat<g.length:=by omega
   have MW:=xi Vs
   have wi:nu g t.head=(g[t.head.toNat]).weight:=by simp [nu,Vs]
   have VO:=Oq hg t.head
   have qR:rS g s t x=ov g s t.args (x.1+s*nu g t.head,x.2):=by cases t;rw [rS];exact if_neg fM
   have rR:IntKind.i64.wrap (s*nu g t.head)=s*nu g t.head:=ep (by rcases hs with rfl | rfl<;>omega)
   have re:IntKind.i64.wrap (x.1+s*nu g t.head)=x.1+s*nu g t.head:=ep (by rcases hs with rfl | rfl<;>omega)
   have Nk:qj (B+1000000) (x.1+s*nu g t.head,x.2):=by
    refine ⟨?_,?_,fun y hy=>by have:=x3 y hy;omega⟩
    ·rcases hs with rfl | rfl<;>simp only<;>omega
    ·rcases hs with rfl | rfl<;>simp only<;>omega
   rw [qR]
   generalize yy:x.1+s*nu g t.head=VZ at *
   refine aK.draw [.no, .no, .no, .no, .no, .no, .no, .no, .no, .no, .no, .no, .no, .no, .no,⟨none,[1],[]⟩] 3 3 mixed rfl rfl (by decide) ?_
   simp only [go_sem,dA,rB,MW,xj,← wi,rR,yy,re]
   refine ⟨⟨by omega,hih⟩,?_⟩
   refine aK.go 1000 ?_
   simp only [go_sem,ao]
   obtain ⟨F,hF⟩:∃ F,ov g s t.args (VZ,x.2)=F:=⟨_,rfl⟩
   rw [hF]
   refine aK.c9 (ι:={q:Nat×(Int×List (Int×Int)) // q.1≤t.args.length∧ov g s (t.args.drop q.1) q.2=F∧∃ C,0≤C∧qj C q.2∧C+1000000*Tm.bG (t.args.drop q.1)≤1000000000000000}) 1000
    (fun q=>fD 58 [(0, .ptr 1 0),(1, .ps 4 (syms g)),(3, .int .i64 s),(46, .ps 2 (t.args.map Tm.aN)),(47, .int .i64 t.args.length),(48, .int .i64 q.1.1)]) (fun q=>pY q.1.2) (fun q=>t.args.length - q.1.1)
    ⟨(0,(VZ,x.2)),by simp only [dk];exact ⟨av _,hF,B+1000000,by omega,Nk,by omega⟩⟩ ?_ (fun _=>by simp [pY]) ?_
   ·unfold pY
    simp only [go_sem,dF,bP,rA]
   ·rintro ⟨⟨i,y⟩,hi,aO,C,Va,Mc,Me⟩
    simp only at hi aO Mc Me
    by_cases bD:(i:Int)<t.args.length
    ·have aZ:i<t.args.length:=by omega
     have hw:IntKind.i64.wrap ((i:Int)+1)=((i+1:Nat):Int):=by rw [ep (by omega)];omega
     have Ar:(t.args.map Tm.aN).getD i .undef=t.args[i].aN:=nP aZ
     have jy:=aF aZ
     have hui:=KV (Uk fh) _ jy
     have huf:=wJ (xm hft) _ jy
     have wc:=tb jy
     rw [ak aZ] at aO Me
     rw [ov] at aO
     rw [Tm.bG] at Me
     generalize t.args[i]=u at *
     unfold pY
     simp only [go_sem,bD,ao,Ar,fq]
     refine ⟨by omega,?_⟩
     rw [← dc u]
     have hI:∀ b,b<2→b=0∨b=1:=fun b hb=>by omega
     have hL:bx 2 [ae.ptr 1 0, .ps 4 (syms g),u.aN, .int .i64 s]:=⟨cD 1,dF _,dE u,trivial,trivial⟩
     refine aq.l7 (Z:=pY y) (f:=.fn 212 [] []) (args:=[ae.ptr 1 0, .ps 4 (syms g),u.aN, .int .i64 s]) (fun b=>b) (fun b b' h1 h2 e=>e) (fun b hb=>Nat.lt_succ_of_lt hb) (fun b hb=>?_) (by simp [go_sem]) rfl hL (qn _ 2 (fun _ _=>rfl) _ hL) (by simp [pY,go_sem,rA]) (Pu g hg lR s hs n u y C (by omega) (by omega) hui huf Va Mc (by omega)) ?_
     ·rcases hI b hb with rfl | rfl
      ·refine ⟨_,rfl,?_⟩
       simp [dG,cz (rA y.2).1,cz (rA y.2).2]
      ·exact ⟨_,rfl,rfl⟩
     rintro r Z' ⟨rfl,rfl⟩
     refine ⟨by simp [pY],by simp [pY,go_sem,rA],trivial,?_⟩
     have Md:=IL hg hs u y C Va Mc
     generalize rS g s u y=z at *
     simp only [go_sem,pY,jJ,fc,mX,aI,aS,cz (rA z.2).1,cz (rA z.2).2]
     refine aK.go 1000 ?_
     simp only [go_sem,hw]
     refine ⟨⟨(i+1,z),by simp only;omega,aO,C+1000000*u.size,by omega,Md,by simp only;omega⟩,?_,by simp only;omega⟩
     simp only [go_sem,dF,bP,rA]
    ·have dR:i=t.args.length:=by omega
     subst dR
     rw [aV,ov] at aO
     subst aO
     unfold pY
     simp only [go_sem,bD]
     refine aK.go 1000 ?_
     simp only [go_sem]
     rw [fL]
     exact ⟨pY y,by simp [pY,go_sem],by simp [pY],by simp [pY,go_sem,rA],trivial,rfl,rfl⟩
def tB (x:Int×List (Int×Int)) (n:Int):Int:=mE n ((x.2.map Prod.snd).any fun n=>decide (0<n)) ((x.2.map Prod.snd).any fun n=>decide (n<0))
def nL (g:List Sy) (t u:Tm):Int×List (Int×Int):=rS g (-1) u (rS g 1 t (0,[]))
mutual
def dS (g:List Sy):Tm→Tm→Int
 | .mk h ts,u=>if Tm.mk h ts=u then 0 else
  if (nL g (.mk h ts) u).1≠0 then tB (nL g (.mk h ts) u) (nL g (.mk h ts) u).1 else
  if h<0∨u.head<0 then 2 else if h≠u.head then tB (nL g (.mk h ts) u) (h - u.head) else gq g (nL g (.mk h ts) u) ts u.args
def gq (g:List Sy) (x:Int×List (Int×Int)):List Tm→List Tm→Int
 | [],_=>0
 | _ :: _,[]=>0
 | t :: ts,u :: us=>if dS g t u≠0 then (if dS g t u=2 then 2 else tB x (dS g t u)) else gq g x ts us
end
def Ab (g:List Sy) (h:Int):Int:=((g[h.toNat]?).map Sy.arity).getD 0
mutual
def Tm.Cx (g:List Sy):Tm→Prop
 | .mk h ts=>(0≤h→(ts.length:Int)=Ab g h)∧Tm.xJ g ts
def Tm.xJ (g:List Sy):List Tm→Prop
 | []=>True
 | t :: ts=>t.Cx g∧Tm.xJ g ts
end
theorem IG {g:List Sy} {t:Tm} (h:t.Cx g) (h0 : 0≤t.head):(t.args.length:Int)=Ab g t.head:=by cases t;exact h.1 h0
theorem Ylv {g:List Sy} {t:Tm} (h:t.Cx g):Tm.xJ g t.args:=by cases t;exact h.2
theorem T_ {g:List Sy}:∀ {ts:List Tm},Tm.xJ g ts→∀ t∈ts,t.Cx g
 | x :: ts,h,t,ht=>by
  rcases aP.1 ht with rfl | ht
  ·exact h.1
  ·exact T_ h.2 t ht
def jr (g:List Sy) (t:Tm):Prop:=t.size<100000000∧t.BS g∧t.Cx g∧t.fit
theorem K_ {g:List Sy} {t u:Tm} (h:jr g t) (hu:u∈t.args):jr g u:=by
 have h1:=tb hu
 have h2:=oA t
 exact ⟨by have:=h.1;omega,KV (Uk h.2.1) u hu,T_ (Ylv h.2.2.1) u hu,wJ (xm h.2.2.2) u hu⟩
theorem PV (g:List Sy) (hg:tn g) (lR:g.length<1000000) (s:Int) (hs:s=1∨s = -1) (t:Tm) (x:Int×List (Int×Int)) (B:Int) (ht:jr g t) (h0 : 0≤B) (hx:qj B x) (hB:B+1000000*t.size≤1000000000000000) (a0 a1:Option bE) {K:ae→ai→Prop}
  (hK:K (.dy []) [a0,a1,some (.map (j0 (rS g s t x).2) (lG (rS g s t x).2) false),some (.var [.int .i64 (rS g s t x).1, .map 2])]) :
  aq Tryz.prog (.fn 212 [] []) [.ptr 3 0, .ps 4 (syms g), .agg [.int .i64 t.head, .ps 2 (t.args.map Tm.aN)], .int .i64 s] [a0,a1,some (.map (j0 x.2) (lG x.2) false),some (.var [.int .i64 x.1, .map 2])] K:=by
 have hI:∀ b,b<2→b=0∨b=1:=fun b hb=>by omega
 have hL:bx 2 [ae.ptr 1 0, .ps 4 (syms g),t.aN, .int .i64 s]:=⟨cD 1,dF _,dE t,trivial,trivial⟩
 rw [← dc t]
 refine aq.l7 (Z:=pY x) (f:=.fn 212 [] []) (args:=[ae.ptr 1 0, .ps 4 (syms g),t.aN, .int .i64 s]) (fun b=>b+2) (fun b b' h1 h2 e=>by omega) (fun b hb=>by have:b<2:=hb;simp;omega) (fun b hb=>?_) (by simp [go_sem]) rfl hL ?_ (by simp [pY,go_sem,rA]) (Pu g hg lR s hs t.size t x B (ah _) ht.1 ht.2.1 ht.2.2.2 h0 hx hB) ?_
 ·rcases hI b hb with rfl | rfl
  ·refine ⟨_,rfl,?_⟩
   simp [dG,cz (rA x.2).1,cz (rA x.2).2]
  ·exact ⟨_,rfl,rfl⟩
 ·simp only [dY,dI,cz (dF _),zT (K0 t),Nat.reduceAdd]
 rintro r Z' ⟨rfl,rfl⟩
 refine ⟨by simp [pY],by simp [pY,go_sem,rA],trivial,?_⟩
 generalize rS g s t x=z at *
 simp only [go_sem,pY,jJ,fc,mX,aI,aS,cz (rA z.2).1,cz (rA z.2).2]
 exact hK
theorem KW (g:List Sy) (hg:tn g) (lR:g.length<1000000):∀ (n:Nat) (t u:Tm),t.size≤n→jr g t→jr g u→aJ Tryz.prog 195 [.ps 4 (syms g),t.aN,u.aN] (.int .i64 (dS g t u))
 | 0,t,_,h,_,_=>by have:=oA t;omega
 | n+1,t,u,hn,ht,hu=>by
  refine aJ.begin (rs:=[.tmp 6]) (m:=82) 1000 Tryz.func195 rfl rfl rfl (by decide) trivial ?_
  have fP:dS g t u=if t=u then 0 else if (nL g t u).1≠0 then tB (nL g t u) (nL g t u).1 else if t.head<0∨u.head<0 then 2 else if t.head≠u.head then tB (nL g t u) (t.head - u.head) else gq g (nL g t u) t.args u.args:=by
   cases t;rw [dS];rfl
  simp only [go_sem,fq]
  refine aq.bU [] (zS t u (by have:=ht.1;omega) (by have:=hu.1;omega)) (by (try simp only [dc]);exact cH _ _ _) (by simp [go_sem,dE,bP]) ?_;simp only [bL,bZ,bX,if_true];refine aK.go 1000 ?_
  by_cases he:t=u
  ·rw [fP,if_pos he]
   simp only [go_sem,he]
  ·rw [if_neg he] at fP
   simp only [go_sem,he]
   have VK:=ht.1
   have hu1:=hu.1
   have VR:qj 0 (0,[]):=⟨by simp,by simp,fun y hy=>by cases hy⟩
   have VS:=IL hg (.inl rfl) t (0,[]) 0 (by omega) VR
   refine PV g hg lR 1 (.inl rfl) t (0,[]) 0 ht (by omega) VR (by omega) _ _ ?_
   refine aK.go 1000 ?_
   simp only [go_sem]
   refine PV g hg lR (-1) (.inr rfl) u _ _ hu (by omega) VS (by omega) _ _ ?_
   have j8:=IL hg (.inr rfl) u _ _ (by omega) VS
   have uv:∀ n,aJ Tryz.prog 213 [.pp [.int .i64 (nL g t u).1, .pm (j0 (nL g t u).2) (lG (nL g t u).2)], .int .i64 n] (.int .i64 (tB (nL g t u) n)):=fun n=>Ys2 _ n _ _ (by simp [j0,ints]) (rA _).1
   rw [show rS g (-1) u (rS g 1 t (0,[]))=nL g t u from rfl] at j8 ⊢
   generalize nL g t u=x at *
   refine aK.FX (q:=2) (b:=3) rfl rfl (by decide) ?_
   refine aK.go 1000 ?_
   have vq:pF 2 (j0 x.2) (lG x.2) t.aN=t.aN:=by rw [dc];rfl
   have oP:pF 2 (j0 x.2) (lG x.2) u.aN=u.aN:=by rw [dc];rfl
   by_cases h1:x.1=0
   ·rw [if_neg (by simp [h1])] at fP
    rw [h1] at uv
    by_cases c1:t.head<0
    ·rw [if_pos (.inl c1)] at fP
     rw [fP]
     simp only [go_sem,aI,aS,h1,vq,oP,c1]
    ·by_cases c2:u.head<0
     ·rw [if_pos (.inr c2)] at fP
      rw [fP]
      simp only [go_sem,aI,aS,h1,vq,oP,c1,c2]
     ·rw [if_neg (by simp [c1,c2])] at fP
      have i1:=Fb ht.2.1
      have i2:=Fb hu.2.1
      by_cases c3:t.head=u.head
      ·rw [if_neg (by simp [c3])] at fP
       have FO:¬ u.head<0:=c2
       simp only [go_sem,aI,aS,h1,vq,oP,c3,FO,ao]
       have hlen:t.args.length=u.args.length:=by
        have l1:=IG ht.2.2.1 (by omega)
        have l2:=IG hu.2.2.1 (by omega)
        rw [c3,← l2] at l1;omega
       have l9:=qb t.args
       have AG:=oA t
       refine aK.c9 (ι:={i:Nat // i≤t.args.length∧gq g x (t.args.drop i) (u.args.drop i)=dS g t u}) 1000
        (fun q=>fD 85 [(0, .ps 4 (syms g)),(4, .ptr 0 0),(5, .ptr 1 0),(6, .int .i64 0),(7, .ptr 3 0),(25, .ps 2 (t.args.map Tm.aN)),(26, .int .i64 t.args.length),(27, .int .i64 q.1)])
        (fun _=>[some (.var [.int .i64 u.head, .ps 2 (t.args.map Tm.aN)]),some (.var [.int .i64 u.head, .ps 2 (u.args.map Tm.aN)]),none,some (.var [.int .i64 0, .pm (j0 x.2) (lG x.2)])]) (fun q=>t.args.length - q.1) ⟨0,by simp [fP]⟩ ?_ (fun _=>av _) ?_
       ·simp only [go_sem,dF,bP,rA]
       ·rintro ⟨i,hi,aO⟩
        by_cases bD:(i:Int)<t.args.length
        ·have aZ:i<t.args.length:=by omega
         have I_:i<u.args.length:=by omega
         have hw:IntKind.i64.wrap ((i:Int)+1)=((i+1:Nat):Int):=by rw [ep (by omega)];omega
         have rP:(t.args.map Tm.aN).getD i .undef=t.args[i].aN:=nP aZ
         have ui:(u.args.map Tm.aN).getD i .undef=u.args[i].aN:=nP I_
         have v8:=aF aZ
         have o1:=K_ ht v8
         have o2:=K_ hu (aF I_)
         have sg:=tb v8
         have sP:=KW g hg lR n t.args[i] u.args[i] (by omega) o1 o2
         rw [ak aZ,ak I_,gq] at aO
         generalize t.args[i]=y at *
         generalize u.args[i]=z at *
         generalize dS g y z=r at *
         have hlI:(i:Int)<u.args.length:=by omega
         simp only [go_sem,bD]
         refine aK.draw [] 4 4 mixed rfl rfl (by decide) ?_
         simp only [go_sem,dA,ao,rP,ui,fq]
         refine ⟨⟨by omega,bD⟩,⟨by omega,hlI⟩,?_⟩
         refine nQ sP (by simp only [dc,bf,bn];exact cH _ _ _) (by simp [go_sem,dE,dF]) ?_
         simp only [go_sem]
         by_cases r0:r=0
         ·rw [if_neg (by simp [r0])] at aO
          refine aK.go 1000 ?_
          simp only [go_sem,r0,hw]
          refine ⟨⟨i+1,by omega,aO⟩,?_,by simp only;omega⟩
          simp only [go_sem,dF,bP,rA]
         ·rw [if_pos r0] at aO
          by_cases r2:r=2
          ·rw [if_pos r2] at aO
           refine aK.go 1000 ?_
           simp only [go_sem,r0,r2]
           refine aK.go 1000 ?_
           simp only [go_sem,← aO]
          ·rw [if_neg r2] at aO
           refine aK.go 1000 ?_
           simp only [go_sem,r0,r2]
           refine aq.sS (b:=3) (cs:=[.int .i64 0, .pm (j0 x.2) (lG x.2)]) [] rfl (uv r) ?_ ?_ rfl ?_
           ·exact cH _ _ _
           ·simp [go_sem,rA]
           refine aK.go 1000 ?_
           simp only [go_sem]
           refine aK.go 1000 ?_
           simp only [go_sem,← aO]
        ·have dR:i=t.args.length:=by omega
         subst dR
         rw [aV,gq] at aO
         simp only [go_sem,bD]
         refine aK.go 1000 ?_
         simp only [go_sem,← aO]
      ·rw [if_pos c3] at fP
       have hw:IntKind.i64.wrap (t.head - u.head)=t.head - u.head:=ep (by omega)
       simp only [go_sem,aI,aS,h1,vq,oP,c1,c2,c3,hw]
       refine aq.sS (b:=3) (cs:=[.int .i64 0, .pm (j0 x.2) (lG x.2)]) [] rfl (uv (t.head - u.head)) ?_ ?_ rfl ?_
       ·exact cH _ _ _
       ·simp [go_sem,rA]
       refine aK.go 1000 ?_
       simp only [go_sem,fP]
   ·rw [if_pos h1] at fP
    simp only [go_sem,aI,aS,h1,vq,oP]
    refine aq.sS (b:=3) (cs:=[.int .i64 x.1, .pm (j0 x.2) (lG x.2)]) [] rfl (uv x.1) ?_ ?_ rfl ?_
    ·exact cH _ _ _
    ·simp [go_sem,rA]
    refine aK.go 1000 ?_
    simp only [go_sem,fP]
def eC (g:List Sy):List Tm→Int
 | []=>0
 | t :: ts=>if t.term g=0 then eC g ts else t.term g
theorem SD (g:List Sy) (ts:List Tm) (hl:ts.length<100000000) (ht:∀ t∈ts,t.size<99999999):aJ Tryz.prog 194 [.ps 4 (syms g), .ps 2 (ts.map Tm.aN)] (.int .i64 (eC g ts)):=by
 refine aJ.begin (rs:=[.tmp 4]) (m:=19) 1000 Tryz.func194 rfl rfl rfl (by decide) trivial ?_
 simp only [go_sem,ao]
 refine aK.c9 (ι:={i:Nat // i≤ts.length∧eC g (ts.drop i)=eC g ts}) 1000 (fun q=>fD 21 [(0, .ps 4 (syms g)),(4, .int .i64 0),(8, .ps 2 (ts.map Tm.aN)),(9, .int .i64 ts.length),(10, .int .i64 q.1)])
  (fun _=>[]) (fun q=>ts.length - q.1) ⟨0,by simp⟩ ?_ (fun _=>av _) ?_
 ·simp only [go_sem,dF,bP]
 ·rintro ⟨i,hi,aO⟩
  by_cases bD:(i:Int)<ts.length
  ·have aZ:i<ts.length:=by omega
   have hw:IntKind.i64.wrap ((i:Int)+1)=((i+1:Nat):Int):=by rw [ep (by omega)];omega
   have rP:(ts.map Tm.aN).getD i .undef=ts[i].aN:=nP aZ
   have hm:=ht _ (aF aZ)
   have htw:=KN g ts[i] (by omega)
   rw [ak aZ,eC] at aO
   generalize ts[i]=t at *
   simp only [go_sem,bD,ao,rP,fq]
   refine ⟨by omega,?_⟩
   refine aq.bU [] (htw) (by (try simp only [dc]);exact cH _ _ _) (by simp [go_sem,dE,bP,dF]) ?_;simp only [bL,bZ,bX,if_true];refine aK.go 1000 ?_
   by_cases h:t.term g=0
   ·rw [if_pos h] at aO
    simp only [go_sem,h,hw]
    refine ⟨⟨i+1,by omega,aO⟩,?_,by simp only;omega⟩
    simp only [go_sem,dF,bP]
   ·rw [if_neg h] at aO
    simp only [go_sem,h]
    refine aK.go 1000 ?_
    simp only [go_sem,aO]
  ·have dR:i=ts.length:=by omega
   subst dR
   rw [aV,eC] at aO
   simp only [go_sem,bD]
   refine aK.go 1000 ?_
   simp only [go_sem,← aO]
theorem Zus (g:List Sy) (hg:tn g) (lR:g.length<1000000) (t u:Tm) (ht:t.size<99999999) (hu:u.size<99999999) (j8:eC g [t,u]=0→jr g t∧jr g u) :
  aJ Tryz.prog 171 [.ps 4 (syms g),t.aN,u.aN] (.dy [.int .i64 (if eC g [t,u]=0 then dS g t u else 0), .int .i64 (eC g [t,u])]):=by
 refine aJ.begin (rs:=[.tmp 6, .tmp 7]) (m:=18) 1000 Tryz.func171 rfl rfl rfl (by decide) ⟨trivial,trivial,trivial⟩ ?_
 have hw:=SD g [t,u] (by simp) (fun y hy=>by simp at hy;rcases hy with rfl | rfl<;>assumption)
 simp only [go_sem,fq]
 refine aq.bU [2] hw ?_ (by simp [go_sem,dE,dF]) ?_
 ·simp only [go_sem,dc,aI,aS]
 simp only [bL,bZ,bX,if_true]
 refine aK.go 1000 ?_
 by_cases h:eC g [t,u]=0
 ·obtain ⟨o1,o2⟩:=j8 h
  rw [if_pos h]
  simp only [go_sem,h]
  refine aq.bU [] (KW g hg lR t.size t u (ah _) o1 o2) (by (try simp only [dc]);exact cH _ _ _) (by simp [go_sem,dE,bP,dF]) ?_;simp only [bL,bZ,bX,if_true];refine aK.go 1000 ?_
  simp only [go_sem]
 ·rw [if_neg h]
  simp only [go_sem,h]
def xA (l:Li):Prop:=l.l.size<999999999∧l.r.size<999999999
def pB (a b:Li):Bool:=(decide (a.l=b.l)&&decide (a.r=b.r))||(decide (a.l=b.r)&&decide (a.r=b.l))
theorem RR (a b:Li) (ha:xA a) (hb:xA b):aJ Tryz.prog 102 [a.aN,b.aN] (.bool (pB a b)):=by
 refine aJ.begin (rs:=[.tmp 4]) (m:=29) 1000 Tryz.func102 rfl rfl rfl (by decide) trivial ?_
 obtain ⟨a1,a2⟩:=ha
 obtain ⟨b1,b2⟩:=hb
 have s1:=zS a.l b.l (by omega) (by omega)
 have s2:=zS a.r b.r (by omega) (by omega)
 have s3:=zS a.l b.r (by omega) (by omega)
 have s4:=zS a.r b.l (by omega) (by omega)
 unfold pB
 generalize decide (a.l=b.l)=p1 at *
 generalize decide (a.r=b.r)=p2 at *
 generalize decide (a.l=b.r)=p3 at *
 generalize decide (a.r=b.l)=p4 at *
 simp only [go_sem,ku]
 refine aq.bU [] (s1) (by (try simp only [dc]);exact cH _ _ _) (by simp [go_sem,dE,bP]) ?_;simp only [bL,bZ,bX,if_true];refine aK.go 1000 ?_
 cases p1
 ·simp only [go_sem]
  refine aq.bU [] (s3) (by (try simp only [dc]);exact cH _ _ _) (by simp [go_sem,dE,bP]) ?_;simp only [bL,bZ,bX,if_true];refine aK.go 1000 ?_
  cases p3
  ·simp only [go_sem,db,Bool.or_false]
  ·simp only [go_sem]
   refine aq.bU [] (s4) (by (try simp only [dc]);exact cH _ _ _) (by simp [go_sem,dE,bP]) ?_;simp only [bL,bZ,bX,if_true];refine aK.go 1000 ?_
   simp only [go_sem,db,dq,cu]
 ·simp only [go_sem]
  refine aq.bU [] (s2) (by (try simp only [dc]);exact cH _ _ _) (by simp [go_sem,dE,bP]) ?_;simp only [bL,bZ,bX,if_true];refine aK.go 1000 ?_
  cases p2
  ·simp only [go_sem]
   refine aq.bU [] (s3) (by (try simp only [dc]);exact cH _ _ _) (by simp [go_sem,dE,bP]) ?_;simp only [bL,bZ,bX,if_true];refine aK.go 1000 ?_
   cases p3
   ·simp only [go_sem,db,gW,Bool.or_false]
   ·simp only [go_sem]
    refine aq.bU [] (s4) (by (try simp only [dc]);exact cH _ _ _) (by simp [go_sem,dE,bP]) ?_;simp only [bL,bZ,bX,if_true];refine aK.go 1000 ?_
    simp only [go_sem,gW,dq,cu]
  ·simp only [go_sem,n7,fH]
theorem TW (a b:Li) (ha:xA a) (hb:xA b):aJ Tryz.prog 65 [a.aN,b.aN] (.bool (decide (a.neg=b.neg)&&pB a b)):=by
 refine aJ.begin (rs:=[.tmp 4]) (m:=13) 1000 Tryz.func65 rfl rfl rfl (by decide) trivial ?_
 have h:=RR a b ha hb
 simp only [go_sem,ku]
 have hd:decide (a.neg=b.neg)=(a.neg==b.neg):=rfl
 rw [hd]
 cases c:a.neg==b.neg
 ·simp only [go_sem,c,db]
 ·simp only [go_sem,c]
  refine aq.bU [] h (cH _ _ _) ⟨mQ _,mQ _,trivial⟩ ?_
  simp only [bL,bZ,bX,if_true]
  refine aK.go 1000 ?_
  simp only [go_sem,cu]
def lF (l:Li):List Tm:=if l.neg then [l.l,l.l,l.r,l.r] else [l.l,l.r]
theorem OZ (l:Li):aJ Tryz.prog 216 [l.aN] (.ps 2 ((lF l).map Tm.aN)):=by
 refine aJ.begin (rs:=[.tmp 2]) (m:=18) 1000 Tryz.func216 rfl rfl rfl (by decide) (bP _) ?_
 unfold lF
 cases h:l.neg
 ·simp only [go_sem,ku,h,a8,if_false,aI,aS]
  rw [dc l.l,dc l.r]
  exact ⟨vX _ _ _,vX _ _ _⟩
 ·simp only [go_sem,ku,h,if_true,aI,aS]
  rw [dc l.l,dc l.r]
  repeat (first | exact vX _ _ _ | exact cH _ _ _ | refine ⟨vX _ _ _,?_⟩)
def px (l:List Tm) (i:Nat):List Tm:=l.take i++l.drop (i+1)
def dV:List Tm→List Tm→List Tm
 | [],_=>[]
 | t :: a,b=>if dH (fun x=>decide (t=x)) b 0<0 then t :: dV a b else dV a (px b (dH (fun x=>decide (t=x)) b 0).toNat)
theorem Ztb (l:List Tm) (hl:l.length≤1000000000):aq Tryz.prog (.fn 200 [] []) [.ps 2 (l.map Tm.aN)] [] (fun r σ'=>(r = .os 1 0 l.length 2∧σ'=[none,some (.row (l.map Tm.aN) 0)])∨(l=[]∧r = .aU∧σ'=[])):=by
 by_cases h:l=[]
 ·subst h
  refine (bS.v Zv2).mono ?_
  rintro r σ' (⟨rfl,rfl⟩ | ⟨rfl,rfl⟩)
  ·exact .inr ⟨rfl,rfl,rfl⟩
  ·exact .inl ⟨rfl,rfl⟩
 ·refine (bS.v (EZ l h hl).1).mono ?_
  rintro r σ' ⟨rfl,rfl⟩
  exact .inl ⟨rfl,rfl⟩
theorem Zf (σ:ai) (b:Nat) (t x:Tm) (hb:bF σ b=some (.var [.int .i64 t.head, .ps 2 (t.args.map Tm.aN)])) (hs:bt σ.length σ) (ht:t.size<999999999) (hx:x.size<999999999) :
  aq Tryz.prog (.fn 240 [] [.ptr b 0]) [x.aN] σ (fun r σ'=>r = .bool (decide (t=x))∧σ' = σ):=by
 have h:aJ Tryz.prog 240 [x.aN, .pp [.int .i64 t.head, .ps 2 (t.args.map Tm.aN)]] (.bool (decide (t=x))):=by
  refine aJ.begin (rs:=[.tmp 3]) (m:=5) 1000 Tryz.func240 rfl rfl rfl (by decide) trivial ?_
  simp only [go_sem,fq]
  refine aq.bU [] (zS t x (by omega) (by omega)) (by (try simp only [dc]);exact cH _ _ _) (by simp [go_sem,dE,bP]) ?_;simp only [bL,bZ,bX,if_true];refine aK.go 1000 ?_
  simp only [go_sem]
 refine aq.sS (b:=b) (cs:=[.int .i64 t.head, .ps 2 (t.args.map Tm.aN)]) [] hb h ?_ ⟨dE x,⟨trivial,bP _,trivial⟩,trivial⟩ rfl ⟨rfl,rfl⟩
 have h1:tj b [.int .i64 t.head, .ps 2 (t.args.map Tm.aN)] x.aN=x.aN:=by rw [dc];rfl
 have h2:tj b [.int .i64 t.head, .ps 2 (t.args.map Tm.aN)] (.ptr b 0) = .pp [.int .i64 t.head, .ps 2 (t.args.map Tm.aN)]:=by simp [tj,xQ]
 simp only [bf,bj,aI,aS,h1,h2]
 exact cH _ _ _
theorem Uf (a b:List Tm) (ha:a.length<1000000) (hb:b.length<1000000) (AG:∀ t∈a,t.size<99999999) (tx:∀ t∈b,t.size<99999999):aJ Tryz.prog 230 [.ps 2 (a.map Tm.aN), .ps 2 (b.map Tm.aN)] (.ps 2 ((dV a b).map Tm.aN)):=by
 refine aJ.begin (rs:=[.tmp 4]) (m:=32) 1000 Tryz.func230 rfl rfl rfl (by decide) (bP _) ?_
 simp only [go_sem]
 refine (Ztb b (by omega)).mono ?_
 rintro r σ' (⟨rfl,rfl⟩ | ⟨rfl,rfl,rfl⟩)
 ·refine aK.go 1000 ?_
  simp only [go_sem,ao]
  refine aK.gS (ι:={q:Nat×List Tm×List Tm // q.1≤a.length∧q.2.1++dV (a.drop q.1) q.2.2=dV a b∧q.2.1.length≤q.1∧q.2.2.length≤b.length∧∀ x∈q.2.2,x.size<99999999}) 1000
   (fun q=>fD 34 [(4, .aU),(5, .os 1 0 q.1.2.2.length 2),(6,ja 2 2 (q.1.2.1.map Tm.aN)),(12, .ps 2 (a.map Tm.aN)),(13, .int .i64 a.length),(14, .int .i64 q.1.1)])
   (fun q=>[none,some (.row (q.1.2.2.map Tm.aN) 0),eJ (q.1.2.1.map Tm.aN)]) (fun q=>a.length - q.1.1) ⟨(0,[],b),by simpa using tx⟩ [] ?_ (fun _=>av _) ?_
  ·refine iF rfl ?_
   simp only [go_sem,bP,cz (bP _),aS,tK,td]
  ·rintro ⟨⟨i,L,c⟩,hi,aO,Al,gK,sK⟩
   simp only at hi aO Al gK sK
   by_cases bD:(i:Int)<a.length
   ·have aZ:i<a.length:=by omega
    have hw:IntKind.i64.wrap ((i:Int)+1)=((i+1:Nat):Int):=by rw [ep (by omega)];omega
    have rP:(a.map Tm.aN).getD i .undef=a[i].aN:=nP aZ
    have rG:=AG _ (aF aZ)
    rw [ak aZ,dV] at aO
    generalize a[i]=t at *
    simp only [go_sem,bD,ao,rP,fq]
    refine ⟨by omega,?_⟩
    refine (Zv9 _ (.fn 240 [] [.ptr 3 0]) (fun x=>decide (t=x)) c rfl (by omega) ?_ ?_ (fun j hj=>Zf _ 3 t c[j] rfl ?_ (by omega) (by have:=sK _ (aF hj);omega))).mono ?_
    ·simp only [go_sem,bP]
    ·simp only [go_sem]
    ·simp only [go_sem,bP]
    rintro r σ' ⟨rfl,rfl⟩
    rcases Hv (fun x=>decide (t=x)) c 0 (by omega) with ⟨q1,_⟩ | ⟨k,q1,q2,_⟩
    ·rw [q1] at aO ⊢
     rw [if_pos (by omega)] at aO
     refine aK.go 1000 ?_
     simp only [go_sem,Int.reduceNeg,Int.reduceLT]
     have h2:bF [none,some (bE.row (c.map Tm.aN) 0),eJ (L.map Tm.aN),some (bE.var [.int .i64 t.head, .ps 2 (t.args.map Tm.aN)]),some (bE.row [.agg [.int .i64 t.head, .ps 2 (t.args.map Tm.aN)]] 0)] 2=eJ (L.map Tm.aN):=rfl
     have m8:=of_eq_true (Ck [t])
     rw [show [t].map Tm.aN=[t.aN] from rfl,dc t] at m8
     simp only [go_sem,uQ h2,m8,ao,hw]
     refine ⟨by omega,⟨(i+1,L++[t],c),by simp only;omega,by rw [← aO];simp,by simp only [ay,au,aR];omega,gK,sK⟩,[(2,5),(5,2)],iF rfl ?_,by simp only;omega⟩
     have lw:bx 0 ((L++[t]).map Tm.aN):=bP _
     dsimp only
     rw [cN] at lw ⊢
     rw [u_ (by simp),u9 (by simp)]
     simp only [aI,aS,dc t] at lw
     simp only [go_sem,bP,cz (bP _),cz lw,ie (av 3) lw,ao,au,aR,aI,aS,dc t]
    ·have C3:(0:Int)+k=k:=by omega
     rw [q2,C3] at aO ⊢
     rw [if_neg (by omega),bV] at aO
     have Nh:¬ (k:Int)<0:=by omega
     have EH:IntKind.i64.wrap ((k:Int)+1)=((k+1:Nat):Int):=by rw [ep (by omega)];omega
     refine aK.go 1000 ?_
     simp only [go_sem,Nh,EH]
     refine aq.Ac (f:=.fn 241 [] []) (args:=[.os 0 0 c.length 2, .int .i64 k, .int .i64 ((k+1:Nat):Int)]) (B:=.row (c.map Tm.aN) 0) 1 rfl (bP _) ⟨trivial,trivial⟩ ⟨cn,trivial,trivial,trivial⟩ ((WZ c k q1 (by omega)).mono ?_)
     rintro r σ' ⟨rfl,rfl⟩
     refine ⟨cn,_,rfl,bP _,?_⟩
     have yb:(px c k).length=c.length - 1:=by simp only [px,ay,cW,cg];omega
     rw [show c.take k++c.drop (k+1)=px c k from rfl,← yb]
     simp only [go_sem,cZ,df]
     refine aK.go 1000 ?_
     simp only [go_sem,hw]
     refine ⟨⟨(i+1,L,px c k),by simp only;omega,aO,by simp only;omega,by simp only;omega,fun x hx=>?_⟩,[],iF rfl ?_,by simp only;omega⟩
     ·rcases aX.1 hx with hx | hx
      ·exact sK x (lL hx)
      ·exact sK x (List.mem_of_mem_drop hx)
     simp only [go_sem,bP,cz (bP _),HO (bP L)]
   ·have dR:i=a.length:=by omega
    subst dR
    rw [aV,dV,bn] at aO
    simp only [go_sem,bD]
    refine aK.go 1000 ?_
    simp only [go_sem]
    rw [← aO,rN rfl rfl];trivial
 ·refine aK.go 1000 ?_
  simp only [go_sem,ao]
  refine aK.gS (ι:={q:Nat×List Tm // q.1≤a.length∧q.2++dV (a.drop q.1) []=dV a []∧q.2.length≤q.1}) 1000
   (fun q=>fD 34 [(4, .aU),(5, .aU),(6,ja 0 2 (q.1.2.map Tm.aN)),(12, .ps 2 (a.map Tm.aN)),(13, .int .i64 a.length),(14, .int .i64 q.1.1)])
   (fun q=>[eJ (q.1.2.map Tm.aN)]) (fun q=>a.length - q.1.1) ⟨(0,[]),by simp⟩ [] ?_ (fun _=>av _) ?_
  ·refine iF rfl ?_
   simp only [go_sem,bP,cz (bP _),aS,tK,td]
  ·rintro ⟨⟨i,L⟩,hi,aO,Al⟩
   simp only at hi aO Al
   by_cases bD:(i:Int)<a.length
   ·have aZ:i<a.length:=by omega
    have hw:IntKind.i64.wrap ((i:Int)+1)=((i+1:Nat):Int):=by rw [ep (by omega)];omega
    have rP:(a.map Tm.aN).getD i .undef=a[i].aN:=nP aZ
    have rG:=AG _ (aF aZ)
    rw [ak aZ,dV,if_pos (by simp [dH])] at aO
    generalize a[i]=t at *
    simp only [go_sem,bD,ao,rP,fq]
    refine ⟨by omega,?_⟩
    refine aq.LW (args':=[.ps 2 (([]:List Tm).map Tm.aN), .fn 240 [] [.ptr 1 0]]) ?_ ?_
    ·simp only [go_sem,aS]
    refine (Rb _ (.fn 240 [] [.ptr 1 0]) (fun x=>decide (t=x)) [] (by simp) ?_ ?_ (fun j hj=>by simp at hj)).mono ?_
    ·simp only [go_sem,bP]
    ·simp only [go_sem]
    rintro r σ' ⟨rfl,rfl⟩
    rw [show dH (fun x=>decide (t=x)) [] 0 = -1 from rfl]
    refine aK.go 1000 ?_
    simp only [go_sem,Int.reduceNeg,Int.reduceLT]
    have h2:bF [eJ (L.map Tm.aN),some (bE.var [.int .i64 t.head, .ps 2 (t.args.map Tm.aN)]),some (bE.row [.agg [.int .i64 t.head, .ps 2 (t.args.map Tm.aN)]] 0)] 0=eJ (L.map Tm.aN):=rfl
    have m8:=of_eq_true (Ck [t])
    rw [show [t].map Tm.aN=[t.aN] from rfl,dc t] at m8
    simp only [go_sem,uQ h2,m8,ao,hw]
    refine ⟨by omega,⟨(i+1,L++[t]),by simp only;omega,by rw [← aO];simp,by simp only [ay,au,aR];omega⟩,[(0,3),(3,0)],iF rfl ?_,by simp only;omega⟩
    have lw:bx 0 ((L++[t]).map Tm.aN):=bP _
    dsimp only
    rw [cN] at lw ⊢
    rw [u_ (by simp),u9 (by simp)]
    simp only [aI,aS,dc t] at lw
    simp only [go_sem,bP,cz (bP _),cz lw,ie (av 1) lw,ao,au,aR,aI,aS,dc t]
   ·have dR:i=a.length:=by omega
    subst dR
    rw [aV,dV,bn] at aO
    simp only [go_sem,bD]
    refine aK.go 1000 ?_
    simp only [go_sem]
    rw [← aO,rN rfl rfl];trivial
def tP (g:List Sy) (a:List Tm) (y:Tm):Bool:=a.any fun x=>decide (dS g x y=1)
def mD (g:List Sy) (a b:List Tm):Bool:=decide (0<a.length) && !(b.any fun y=>!tP g a y)
def sZ (t:Tm):Option bE:=some (.var [.int .i64 t.head, .ps 2 (t.args.map Tm.aN)])
def oW (g:List Sy) (a:List Tm):ai:=[some (.var [.ps 4 (syms g)]),some (.var [.ps 2 (a.map Tm.aN)]),some (.var [.fn 242 [] [.ptr 1 0, .ptr 0 0]])]
theorem XH (g:List Sy) (hg:tn g) (lR:g.length<1000000) (a:List Tm) (x y:Tm) (hx:jr g x) (hy:jr g y) :
  aq Tryz.prog (.fn 243 [] [.ptr 0 0, .ptr 4 0]) [x.aN] (oW g a++[sZ y,sZ y]) (fun r σ'=>r = .bool (decide (dS g x y=1))∧σ'=oW g a++[sZ y,sZ y]):=by
 unfold oW sZ
 refine aq.begin (rs:=[.tmp 4]) (m:=7) 1000 Tryz.func243 rfl rfl rfl rfl rfl ?_
 have hs:=KW g hg lR x.size x y (ah _) hx hy
 simp only [go_sem,fq,bj,bf]
 refine aq.bU [] hs (by simp only [dc,bj,bf,bn];exact cH _ _ _) (by simp [go_sem,dE,dF]) ?_
 simp only [bL,bZ,bX,if_true]
 refine aK.go 1000 ?_
 simp only [go_sem]
 rw [fL]
 exact ⟨oW g a++[sZ y,sZ y],by simp [oW,sZ,go_sem],by simp [oW],by simp [oW,sZ,go_sem,dF,bP],trivial,rfl,rfl⟩
theorem IF (g:List Sy) (a:List Tm) (l:List Tm) {n:Nat} (hn:n=3+l.length):bt n (oW g a++l.map sZ):=by
 subst hn
 refine o9 ?_ ?_
 ·refine nA (bN 3 _) ?_
  simp [oW,go_sem,dF,bP]
 ·induction l with
  | nil=>trivial
  | cons x l ih=>exact ⟨⟨trivial,bP _,trivial⟩,nA (by simp) ih⟩
theorem Ymx (g:List Sy) (hg:tn g) (lR:g.length<1000000) (a:List Tm) (y:Tm) (ha:∀ x∈a,jr g x) (l9:a.length<1000000) (hy:jr g y) :
  aq Tryz.prog (.fn 242 [] [.ptr 1 0, .ptr 0 0]) [y.aN] (oW g a++[sZ y]) (fun r σ'=>r = .bool (tP g a y)∧σ'=oW g a++[sZ y]):=by
 refine aq.begin (rs:=[.tmp 4]) (m:=5) 1000 Tryz.func242 rfl rfl rfl rfl rfl ?_
 have hc:=JK (oW g a++[sZ y,sZ y]) (.fn 243 [] [.ptr 0 0, .ptr 4 0]) (fun x=>decide (dS g x y=1)) a (by omega) (IF g a [y,y] rfl) (by simp [oW,go_sem]) (fun i h=>XH g hg lR a a[i] y (ha _ (aF h)) hy)
 unfold oW sZ at hc ⊢
 simp only [go_sem,fq,bj,bf]
 refine hc.mono ?_
 rintro r σ' ⟨rfl,rfl⟩
 refine aK.go 1000 ?_
 simp only [go_sem,bj,bf]
 rw [fL]
 exact ⟨oW g a++[sZ y],by simp [oW,sZ,go_sem],by simp [oW],IF g a [y] rfl,trivial,rfl,rfl⟩
theorem ZK (g:List Sy) (hg:tn g) (lR:g.length<1000000) (a:List Tm) (y:Tm) (ha:∀ x∈a,jr g x) (l9:a.length<1000000) (hy:jr g y) :
  aq Tryz.prog (.fn 244 [] [.ptr 2 0]) [y.aN] (oW g a) (fun r σ'=>r = .bool (!tP g a y)∧σ'=oW g a):=by
 refine aq.begin (rs:=[.tmp 3]) (m:=6) 1000 Tryz.func244 rfl rfl rfl rfl rfl ?_
 have hc:=Ymx g hg lR a y ha l9 hy
 rw [dc y] at hc
 unfold oW sZ at hc
 unfold oW
 simp only [go_sem,fq,bj,bf]
 refine hc.mono ?_
 rintro r σ' ⟨rfl,rfl⟩
 refine aK.go 1000 ?_
 simp only [go_sem,bj,bf]
 rw [fL]
 exact ⟨oW g a,by simp [oW,sZ,go_sem],by simp [oW],(show bt 3 (oW g a) by simpa using IF g a [] rfl),trivial,rfl,rfl⟩
theorem Uy (g:List Sy) (hg:tn g) (lR:g.length<1000000) (a b:List Tm) (ha:∀ x∈a,jr g x) (hb:∀ x∈b,jr g x) (l9:a.length<1000000) (vY:b.length<1000000) :
  aJ Tryz.prog 231 [.ps 4 (syms g), .ps 2 (a.map Tm.aN), .ps 2 (b.map Tm.aN)] (.bool (mD g a b)):=by
 refine aJ.begin (rs:=[.tmp 6]) (m:=15) 1000 Tryz.func231 rfl rfl rfl (by decide) trivial ?_
 have hc:=JK (oW g a) (.fn 244 [] [.ptr 2 0]) (fun y=>!tP g a y) b (by omega) (show bt 3 (oW g a) by simpa using IF g a [] rfl) (by simp [oW,go_sem]) (fun i h=>ZK g hg lR a b[i] ha l9 (hb _ (aF h)))
 unfold oW at hc
 by_cases h:(0:Int)<a.length
 ·have h' : 0<a.length:=by omega
  simp only [go_sem,ao,h]
  refine hc.mono ?_
  rintro r σ' ⟨rfl,rfl⟩
  refine aK.go 1000 ?_
  simp only [go_sem,mD,h',decide_true,cu]
 ·have h':¬ 0<a.length:=by omega
  simp only [go_sem,ao,h,mD,h',decide_false,db]
theorem Yo (n:Nat) (hn:n<10000000):aq Tryz.prog (.fn 239 [] []) [.aU, .int .i64 n] [] (fun r σ'=>(n=0∧r = .aU∧σ'=[])∨∃ J,bx 0 J∧r = .os 0 0 0 2∧σ'=[some (.row J 0)]):=by
 refine aq.begin (rs:=[.tmp 4]) (m:=25) 1000 Tryz.func239 rfl rfl rfl rfl rfl ?_
 have h1:¬ (n:Int)<0:=by omega
 have hw:IntKind.i64.wrap (n:Int)=n:=ep (by omega)
 have VN:IntKind.i64.wrap 0=0:=ep (by omega)
 by_cases h:(0:Int)<n
 ·have h2:¬ n=0:=by omega
  have h3:n≤6000000000000:=by omega
  have hz:eL ⟨2,true,32,[.int .i64 0, .aU], .struct⟩ (List.replicate n (.agg [.int .i64 0, .aU])):=⟨fun x hx=>by rw [(List.mem_replicate.1 hx).2];exact ⟨rfl,rfl⟩,by decide,by decide,rfl⟩
  simp only [go_sem,h1,hw,VN,h,hz,bz,h2,h3]
  have hJ:∀ k m,bx k (List.replicate m (ae.agg [.int .i64 0, .aU])):=fun k m=>by
   induction m with
   | zero=>trivial
   | succ m ih=>rw [fw];exact ⟨⟨trivial,trivial,trivial⟩,ih⟩
  refine ⟨⟨by omega,by omega⟩,by omega,?_⟩
  rw [fL]
  exact ⟨_,fx _,av _,⟨hJ _ _,trivial⟩,cn,_,hJ _ _,rfl,rfl⟩
 ·simp only [go_sem,h1,hw,VN,h]
  rw [fL]
  exact ⟨[],trivial,ah _,trivial,trivial, .inl ⟨by omega,rfl,rfl⟩⟩
def FQ (a b:List Tm):Nat→Nat
 | 0=>0
 | 1=>a.length
 | _=>a.length+b.length
def CD (a b:List Tm) (J:List ae):Nat→List ae
 | 0=>J
 | 1=>a.map Tm.aN
 | _=>(a++b).map Tm.aN
theorem Ztd (a b:List Tm) (ha:a.length<1000000) (hb:b.length<1000000):aJ Tryz.prog 229 [.ps 1 [.ps 2 (a.map Tm.aN), .ps 2 (b.map Tm.aN)]] (.ps 2 ((a++b).map Tm.aN)):=by
 refine aJ.begin (rs:=[.tmp 2]) (m:=35) 1000 Tryz.func229 rfl rfl rfl (by decide) (bP _) ?_
 have c0:FQ a b 0=0:=rfl
 have c1:FQ a b 1=a.length:=rfl
 have c2:FQ a b 2=a.length+b.length:=rfl
 have kY:((2:Nat):Int)=2:=rfl
 have rR:IntKind.i64.wrap ((1:Int)+1)=((2:Nat):Int):=ep (by omega)
 simp only [go_sem,au,aR]
 refine aK.c9 (ι:={i:Nat // i≤2}) 1000 (fun q=>fD 36 [(0, .ps 1 [.ps 2 (a.map Tm.aN), .ps 2 (b.map Tm.aN)]),(2, .aU),(3, .int .i64 (FQ a b q.1)),(9, .ps 1 [.ps 2 (a.map Tm.aN), .ps 2 (b.map Tm.aN)]),(10, .int .i64 ((2:Nat):Int)),(11, .int .i64 q.1)])
  (fun _=>[]) (fun q=>2 - q.1) ⟨0,by omega⟩ ?_ (fun _=>av _) ?_
 ·simp only [go_sem,c0,kY,bP]
 ·rintro ⟨i,hi⟩
  obtain rfl | rfl | rfl:i=0∨i=1∨i=2:=by omega
  ·have hw:IntKind.i64.wrap (a.length:Int)=a.length:=ep (by omega)
   have hn:¬ (a.length:Int)<0:=by omega
   simp only [go_sem,c0,kY,ao,hw,hn,bg]
   exact ⟨⟨1,by omega⟩,⟨⟨rfl,rfl⟩,bP _,bP _⟩,by simp only;omega⟩
  ·have hw:IntKind.i64.wrap ((a.length:Int)+b.length)=((a.length+b.length:Nat):Int):=by rw [ep (by omega)];omega
   have hn:¬ ((a.length+b.length:Nat):Int)<0:=by omega
   simp only [go_sem,c1,kY,ao,hw,hn,bg,bB]
   exact ⟨⟨2,by omega⟩,⟨⟨rfl,by rw [rR]⟩,bP _,bP _⟩,by simp only;omega⟩
  ·simp only [go_sem,c2,kY,lI]
   refine aK.go 1000 ?_
   simp only [go_sem]
   refine (Yo (a.length+b.length) (by omega)).mono ?_
   rintro r σ' (⟨hz,rfl,rfl⟩ | ⟨J,hJ,rfl,rfl⟩)
   ·have Ms:a=[]:=aY (by omega)
    have xr:b=[]:=aY (by omega)
    subst Ms;subst xr
    refine aK.go 1000 ?_
    simp only [go_sem,aS,au,aR]
    refine aK.c9 (ι:={i:Nat // i≤2}) 1000 (fun q=>fD 36 [(2, .aU),(6, .aU),(25, .ps 1 [.ps 2 [], .ps 2 []]),(26, .int .i64 ((2:Nat):Int)),(27, .int .i64 q.1)])
     (fun _=>[]) (fun q=>2 - q.1) ⟨0,by omega⟩ ?_ (fun _=>av _) ?_
    ·simp only [go_sem,kY]
    ·rintro ⟨i,hi⟩
     obtain rfl | rfl | rfl:i=0∨i=1∨i=2:=by omega
     ·simp only [go_sem,kY,bg,aR]
      exact ⟨of_eq_true (Ck []),⟨1,by omega⟩,rfl,by simp only;omega⟩
     ·simp only [go_sem,kY,bg,bB,aR]
      exact ⟨of_eq_true (Ck []),⟨2,by omega⟩,by rw [rR],by simp only;omega⟩
     ·simp only [go_sem,kY,lI]
      refine aK.go 1000 ?_
      simp only [go_sem,bn,aS]
   ·refine aK.go 1000 ?_
    simp only [go_sem,au,aR]
    refine aK.gS (ι:={i:Nat // i≤2}) 1000 (fun q=>fD 36 [(2, .aU),(6, .os 0 0 (FQ a b q.1) 2),(25, .ps 1 [.ps 2 (a.map Tm.aN), .ps 2 (b.map Tm.aN)]),(26, .int .i64 ((2:Nat):Int)),(27, .int .i64 q.1)])
     (fun q=>[some (.row (CD a b J q.1) 0)]) (fun q=>2 - q.1) ⟨0,by omega⟩ [] ?_ (fun _=>av _) ?_
    ·refine iF rfl ?_
     simp only [go_sem,kY,c0,show CD a b J 0=J from rfl,bP,cz (bP _),cz hJ,ie (av 1) hJ]
    ·rintro ⟨i,hi⟩
     obtain rfl | rfl | rfl:i=0∨i=1∨i=2:=by omega
     ·simp only [go_sem,kY,c0,show CD a b J 0=J from rfl,bg,ao]
      refine ⟨⟨by omega,by omega⟩,⟨1,by omega⟩,[(0,1),(1,0)],iF rfl ?_,by simp only;omega⟩
      simp only [go_sem,kY,c1,show CD a b J 1=a.map Tm.aN from rfl,bP,cz (bP _)]
     ·simp only [go_sem,kY,c1,show CD a b J 1=a.map Tm.aN from rfl,bg,bB,ao]
      refine ⟨⟨by omega,by omega⟩,⟨2,by omega⟩,[(0,1),(1,0)],iF rfl ?_,by simp only;omega⟩
      simp only [go_sem,kY,rR,c2,show CD a b J 2=(a++b).map Tm.aN from rfl,bP,cz (bP _),cN]
      have lw:bx 0 (a.map Tm.aN++b.map Tm.aN):=rZ (bP a) (bP b)
      rw [bd (by simp),cz lw]
      exact ⟨rfl,ie (av 1) lw⟩
     ·simp only [go_sem,kY,c2,show CD a b J 2=(a++b).map Tm.aN from rfl,lI]
      refine aK.go 1000 ?_
      simp only [go_sem,ao,ay]
      rw [bd (by simp)]
      exact cH _ _ _
theorem H0:∀ (a b:List Tm) (t:Tm),t∈dV a b→t∈a
 | [],_,t,h=>by rw [dV] at h;cases h
 | x :: a,b,t,h=>by
  rw [dV] at h
  split at h
  ·rcases aP.1 h with rfl | h
   ·simp
   ·exact cq _ (H0 a b t h)
  ·exact cq _ (H0 a _ t h)
theorem HF:∀ (a b:List Tm),(dV a b).length≤a.length
 | [],_=>by rw [dV];exact ah _
 | x :: a,b=>by
  rw [dV]
  split
  ·have:=HF a b;simp only [au];omega
  ·have:=HF a (px b (dH (fun y=>decide (x=y)) b 0).toNat);simp only [au];omega
def pM (g:List Sy) (a b:List Tm):Int :=
 if (dV a b).length+(dV b a).length=0 then 0 else if mD g (dV a b) (dV b a)=true then 1 else if mD g (dV b a) (dV a b)=true then -1 else 2
theorem Ym2 (g:List Sy) (hg:tn g) (lR:g.length<1000000) (a b:List Tm) (ha:a.length<500000) (hb:b.length<500000) (hs:∀ t∈a++b,t.size<99999999) (j8:eC g (a++b)=0→∀ t∈a++b,jr g t) :
  aJ Tryz.prog 215 [.ps 4 (syms g), .ps 2 (a.map Tm.aN), .ps 2 (b.map Tm.aN)] (.dy [.int .i64 (if eC g (a++b)=0 then pM g a b else 0), .int .i64 (eC g (a++b))]):=by
 refine aJ.begin (rs:=[.tmp 6, .tmp 7]) (m:=40) 1000 Tryz.func215 rfl rfl rfl (by decide) ⟨trivial,trivial,trivial⟩ ?_
 have hw:=SD g (a++b) (by simp;omega) hs
 have AG:∀ t∈a,t.size<99999999:=fun t ht=>hs t (by simp [ht])
 have tx:∀ t∈b,t.size<99999999:=fun t ht=>hs t (by simp [ht])
 simp only [go_sem]
 refine aq.bU [0] (Ztd a b (by omega) (by omega)) ?_ ⟨⟨bP a,bP b,trivial⟩,trivial⟩ ?_
 ·simp only [go_sem]
 generalize bL _=fl
 have AF:∀ σ:ai,aq Tryz.prog (.fn 194 [] []) [.ps 4 (syms g), .ps 2 ((a++b).map Tm.aN)] σ (fun r σ'=>r = .int .i64 (eC g (a++b))∧σ' = σ):=fun σ=>by
  refine aq.bU [] hw (cH _ _ _) ⟨dF _,bP (a++b),trivial⟩ ?_
  simp only [bL,bZ,bX,if_true]
  exact ⟨trivial,trivial⟩
 obtain ⟨fz,Ew⟩:∃ fz,(if fl=true then [some (bE.row [.ps 2 (a.map Tm.aN), .ps 2 (b.map Tm.aN)] 0)] else fA (among [0]) 0 [some (bE.row [.ps 2 (a.map Tm.aN), .ps 2 (b.map Tm.aN)] 0)])=[some (bE.row [.ps 2 (a.map Tm.aN), .ps 2 (b.map Tm.aN)] fz)]:=by
  cases fl
  ·exact ⟨_,rfl⟩
  ·exact ⟨_,rfl⟩
 rw [Ew]
 refine aK.go 1000 ?_
 simp only [go_sem]
 refine (AF _).mono ?_
 rintro r σ' ⟨rfl,rfl⟩
 by_cases h:eC g (a++b)=0
 ·have hk:=j8 h
  have hka:∀ t∈a,jr g t:=fun t ht=>hk t (by simp [ht])
  have hkb:∀ t∈b,jr g t:=fun t ht=>hk t (by simp [ht])
  have l1:=HF a b
  have l2:=HF b a
  have m1:∀ t∈dV a b,jr g t:=fun t ht=>hka t (H0 _ _ t ht)
  have m2:∀ t∈dV b a,jr g t:=fun t ht=>hkb t (H0 _ _ t ht)
  have o1:=Uy g hg lR (dV a b) (dV b a) m1 m2 (by omega) (by omega)
  have o2:=Uy g hg lR (dV b a) (dV a b) m2 m1 (by omega) (by omega)
  refine aK.go 1000 ?_
  rw [if_pos h]
  simp only [go_sem,h]
  refine aq.bU [] (Uf a b (by omega) (by omega) AG tx) (cH _ _ _) ⟨bP a,bP b,trivial⟩ ?_
  rw [jd];simp only [ite_self]
  refine aK.go 1000 ?_
  simp only [go_sem]
  refine aq.bU [] (Uf b a (by omega) (by omega) tx AG) (cH _ _ _) ⟨bP b,bP a,trivial⟩ ?_
  rw [jd];simp only [ite_self]
  have GG:pM g a b=if (dV a b).length+(dV b a).length=0 then 0 else if mD g (dV a b) (dV b a)=true then 1 else if mD g (dV b a) (dV a b)=true then -1 else 2:=rfl
  rw [GG]
  generalize dV a b=x at *
  generalize dV b a=y at *
  have rR:IntKind.i64.wrap ((x.length:Int)+y.length)=((x.length+y.length:Nat):Int):=by rw [ep (by omega)];omega
  refine aK.go 1000 ?_
  by_cases h1:x.length+y.length=0
  ·rw [if_pos h1]
   have h2:((x.length+y.length:Nat):Int)=0:=by omega
   simp only [go_sem,ao,rR,h2]
  ·rw [if_neg h1]
   have h2:¬ ((x.length+y.length:Nat):Int)=0:=by omega
   simp only [go_sem,ao,rR,h2]
   refine aq.bU [] o1 (cH _ _ _) ⟨dF _,bP x,bP y,trivial⟩ ?_
   simp only [bL,bZ,bX,if_true]
   refine aK.go 1000 ?_
   cases h3:mD g x y
   ·simp only [go_sem,h3]
    refine aq.bU [] o2 (cH _ _ _) ⟨dF _,bP y,bP x,trivial⟩ ?_
    simp only [bL,bZ,bX,if_true]
    refine aK.go 1000 ?_
    cases h4:mD g y x
    ·simp only [go_sem,h4]
    ·simp only [go_sem,h4]
   ·simp only [go_sem,h3]
 ·refine aK.go 1000 ?_
  rw [if_neg h]
  simp only [go_sem,h]
def yG (g:List Sy) (l:Li):Prop:=jr g l.l∧jr g l.r
def rr (l:Li):Prop:=l.l.size<99999999∧l.r.size<99999999
theorem K6 {l:Li} {t:Tm} (h:t∈lF l):t=l.l∨t=l.r:=by
 unfold lF at h
 split at h<;>simp at h<;>rcases h with rfl | rfl<;>simp
theorem UI (l:Li):(lF l).length≤4:=by
 unfold lF;split<;>simp
theorem A8 {g:List Sy} {l:Li} (h:l.check g=0):l.l.term g=0∧l.r.term g=0:=by
 unfold Li.check at h
 by_cases h1:l.l.term g=0
 ·rw [if_neg (by simp [h1])] at h
  by_cases h2:l.r.term g=0
  ·exact ⟨h1,h2⟩
  ·rw [if_pos h2] at h;exact absurd h h2
 ·rw [if_pos h1] at h;exact absurd h h1
theorem QN {g:List Sy}:∀ {ts:List Tm},(∀ t∈ts,t.term g=0)→eC g ts=0
 | [],_=>rfl
 | t :: ts,h=>by rw [eC,if_pos (h t (by simp))];exact QN fun x hx=>h x (by simp [hx])
def qf (g:List Sy) (a b:Li):Int×Int:=if a.check g≠0 then (0,a.check g) else if b.check g≠0 then (0,b.check g) else (pM g (lF a) (lF b),0)
theorem Zti (g:List Sy) (hg:tn g) (lR:g.length<1000000) (a b:Li) (sa:rr a) (sb:rr b) (oa:a.check g=0→yG g a) (ob:b.check g=0→yG g b) :
  aJ Tryz.prog 198 [.ps 4 (syms g),a.aN,b.aN] (.dy [.int .i64 (qf g a b).1, .int .i64 (qf g a b).2]):=by
 refine aJ.begin (rs:=[.tmp 6, .tmp 7]) (m:=27) 1000 Tryz.func198 rfl rfl rfl (by decide) ⟨trivial,trivial,trivial⟩ ?_
 have c1:=KC g a (by have:=sa.1;omega) (by have:=sa.2;omega)
 have c2:=KC g b (by have:=sb.1;omega) (by have:=sb.2;omega)
 simp only [go_sem,ku]
 refine aq.bU [] c1 (cH _ _ _) ⟨dF _,mQ _,trivial⟩ ?_
 simp only [bL,bZ,bX,if_true]
 refine aK.go 1000 ?_
 by_cases h1:a.check g=0
 ·simp only [go_sem,h1]
  refine aq.bU [] c2 (cH _ _ _) ⟨dF _,mQ _,trivial⟩ ?_
  simp only [bL,bZ,bX,if_true]
  refine aK.go 1000 ?_
  by_cases h2:b.check g=0
  ·have hr:qf g a b=(pM g (lF a) (lF b),0):=by unfold qf;rw [if_neg (by simp [h1]),if_neg (by simp [h2])]
   have qQ:=UI a
   have Ax:=UI b
   have jy:∀ t∈lF a++lF b,t.size<99999999∧jr g t∧t.term g=0:=fun t ht=>by
    rcases aX.1 ht with ht | ht
    ·rcases K6 ht with rfl | rfl
     ·exact ⟨sa.1,(oa h1).1,(A8 h1).1⟩
     ·exact ⟨sa.2,(oa h1).2,(A8 h1).2⟩
    ·rcases K6 ht with rfl | rfl
     ·exact ⟨sb.1,(ob h2).1,(A8 h2).1⟩
     ·exact ⟨sb.2,(ob h2).2,(A8 h2).2⟩
   have hm:=Ym2 g hg lR (lF a) (lF b) (by omega) (by omega) (fun t ht=>(jy t ht).1) (fun _ t ht=>(jy t ht).2.1)
   rw [QN (fun t ht=>(jy t ht).2.2),if_pos rfl] at hm
   rw [hr]
   simp only [go_sem,h2]
   refine aK.draw [] 2 2 mixed rfl rfl (by decide) ?_
   simp only [go_sem,dA]
   refine nQ (OZ a) (cH _ _ _) ⟨mQ _,trivial⟩ ?_
   simp only [go_sem]
   refine nQ (OZ b) (cH _ _ _) ⟨mQ _,trivial⟩ ?_
   simp only [go_sem]
   refine nQ hm (cH _ _ _) ⟨dF _,bP _,bP _,trivial⟩ ?_
   simp only [go_sem]
   refine aK.go 1000 ?_
   simp only [go_sem]
  ·have hr:qf g a b=(0,b.check g):=by unfold qf;rw [if_neg (by simp [h1]),if_pos h2]
   rw [hr]
   simp only [go_sem,h2]
 ·have hr:qf g a b=(0,a.check g):=by unfold qf;rw [if_pos h1]
  rw [hr]
  simp only [go_sem,h1]
def eV (a b:Li):Bool:=decide (a.neg=b.neg)&&pB a b
def r9 (l:List Li) (i:Nat):List Li:=l.take i++l.drop (i+1)
def eG:List Li→List Li→List Li
 | [],_=>[]
 | t :: a,b=>if dH (fun x=>eV t x) b 0<0 then t :: eG a b else eG a (r9 b (dH (fun x=>eV t x) b 0).toNat)
def uz (t:Li):Option bE:=some (.var [.bool t.neg, .int .i64 t.l.head, .ps 2 (t.l.args.map Tm.aN), .int .i64 t.r.head, .ps 2 (t.r.args.map Tm.aN)])
def wN:Option bE:=some (.var [.fn 65 [] []])
theorem Xp (o1 o2 o3:Option bE) (t x:Li) (hs:bt 5 [wN,o1,o2,o3,uz t]) (ht:rr t) (hx:rr x) :
  aq Tryz.prog (.fn 214 [] [.ptr 0 0, .ptr 4 0]) [x.aN] [wN,o1,o2,o3,uz t] (fun r σ'=>r = .bool (eV t x)∧σ'=[wN,o1,o2,o3,uz t]):=by
 unfold wN uz at hs ⊢
 refine aq.begin (rs:=[.tmp 4]) (m:=6) 1000 Tryz.func214 rfl rfl rfl rfl rfl ?_
 have h:=TW t x ⟨by have:=ht.1;omega,by have:=ht.2;omega⟩ ⟨by have:=hx.1;omega,by have:=hx.2;omega⟩
 simp only [go_sem,ku]
 refine aq.bU [] h (cH _ _ _) ⟨mQ _,mQ _,trivial⟩ ?_
 simp only [bL,bZ,bX,if_true]
 refine aK.go 1000 ?_
 simp only [go_sem]
 rw [fL]
 exact ⟨[wN,o1,o2,o3,uz t],by simp [wN,uz,go_sem,RZ],by simp,hs,trivial,rfl,rfl⟩
theorem T3 (a b:List Li) (xr:b≠[]) (ha:a.length<1000000) (hb:b.length<1000000) (AG:∀ t∈a,rr t) (tx:∀ t∈b,rr t):aJ Tryz.prog 196 [.ps 5 (lits a), .ps 5 (lits b), .fn 65 [] []] (.ps 5 (lits (eG a b))):=by
 refine aJ.begin (rs:=[.tmp 6]) (m:=33) 1000 Tryz.func196 rfl rfl rfl (by decide) (ct _) ?_
 simp only [go_sem]
 refine aq.sT [] (Hz b xr (by omega)) (cH _ _ _) ⟨ct _,trivial⟩ ?_
 rw [jd]
 simp only [zV,zW,z7,xk,z8,up,cz (ct _)]
 refine aK.go 1000 ?_
 simp only [go_sem,fO]
 refine aK.gS (ι:={q:Nat×List Li×List Li // q.1≤a.length∧q.2.1++eG (a.drop q.1) q.2.2=eG a b∧q.2.1.length≤q.1∧q.2.2.length≤b.length∧∀ x∈q.2.2,rr x}) 1000
  (fun q=>fD 36 [(5, .ptr 0 0),(6, .aU),(7, .os 2 0 q.1.2.2.length 5),(8,ja 3 5 (lits q.1.2.1)),(14, .ps 5 (lits a)),(15, .int .i64 a.length),(16, .int .i64 q.1.1)])
  (fun q=>[wN,none,some (.row (lits q.1.2.2) 0),eJ (lits q.1.2.1)]) (fun q=>a.length - q.1.1) ⟨(0,[],b),by simpa using tx⟩ [] ?_ (fun _=>av _) ?_
 ·refine iF rfl ?_
  unfold wN
  simp only [go_sem,ct,cz (ct _),show lits []=[] from rfl,tK,td]
 ·rintro ⟨⟨i,L,c⟩,hi,aO,Al,gK,sK⟩
  simp only at hi aO Al gK sK
  by_cases bD:(i:Int)<a.length
  ·have aZ:i<a.length:=by omega
   have hw:IntKind.i64.wrap ((i:Int)+1)=((i+1:Nat):Int):=by rw [ep (by omega)];omega
   have rP:=tG aZ
   have rG:=AG _ (aF aZ)
   rw [ak aZ,eG] at aO
   generalize a[i]=t at *
   have iL:bt 5 [wN,none,some (bE.row (lits c) 0),eJ (lits L),uz t]:=⟨⟨⟨trivial,trivial⟩,trivial⟩,trivial,ct c,zU _ (ct L),⟨trivial,trivial,bP _,trivial,bP _,trivial⟩,trivial⟩
   have Gn:=QC [wN,none,some (bE.row (lits c) 0),eJ (lits L),uz t] (b:=2) (.fn 214 [] [.ptr 0 0, .ptr 4 0]) (fun x=>eV t x) c rfl (by omega) iL (by simp [go_sem]) (fun j hj=>Xp none _ _ t c[j] iL rG (sK _ (aF hj)))
   unfold wN uz at Gn
   unfold wN
   simp only [go_sem,bD,fO,rP,ku]
   refine ⟨by omega,?_⟩
   refine Gn.mono ?_
   rintro r σ' ⟨rfl,rfl⟩
   rcases Hv (fun x=>eV t x) c 0 (by omega) with ⟨q1,_⟩ | ⟨k,q1,q2,_⟩
   ·rw [q1] at aO ⊢
    rw [if_pos (by omega)] at aO
    refine aK.go 1000 ?_
    simp only [go_sem,Int.reduceNeg,Int.reduceLT]
    have h2:bF [some (bE.var [.fn 65 [] []]),none,some (bE.row (lits c) 0),eJ (lits L),some (bE.var [.bool t.neg, .int .i64 t.l.head, .ps 2 (t.l.args.map Tm.aN), .int .i64 t.r.head, .ps 2 (t.r.args.map Tm.aN)]),some (bE.row [.agg [.bool t.neg, .int .i64 t.l.head, .ps 2 (t.l.args.map Tm.aN), .int .i64 t.r.head, .ps 2 (t.r.args.map Tm.aN)]] 0)] 3=eJ (lits L):=rfl
    have BN:lits [t]=[.agg [.bool t.neg, .int .i64 t.l.head, .ps 2 (t.l.args.map Tm.aN), .int .i64 t.r.head, .ps 2 (t.r.args.map Tm.aN)]]:=rfl
    have m8:=of_eq_true (LS [t])
    rw [BN] at m8
    simp only [go_sem,uQ h2,m8,fO,hw]
    refine ⟨by omega,⟨(i+1,L++[t],c),by simp only;omega,by rw [← aO];simp,by simp only [ay,au,aR];omega,gK,sK⟩,[(3,6),(6,3)],iF rfl ?_,by simp only;omega⟩
    have lw:bx 0 (lits (L++[t])):=ct _
    have qQ:lits (L++[t])=lits L++[.agg [.bool t.neg, .int .i64 t.l.head, .ps 2 (t.l.args.map Tm.aN), .int .i64 t.r.head, .ps 2 (t.r.args.map Tm.aN)]]:=by rw [← BN];simp [lits]
    dsimp only
    rw [qQ] at lw ⊢
    rw [Fe,E_]
    simp only [go_sem,ct,cz (ct _),cz lw,ie (av 4) lw,fO]
   ·have C3:(0:Int)+k=k:=by omega
    rw [q2,C3] at aO ⊢
    rw [if_neg (by omega),bV] at aO
    have Nh:¬ (k:Int)<0:=by omega
    have EH:IntKind.i64.wrap ((k:Int)+1)=((k+1:Nat):Int):=by rw [ep (by omega)];omega
    refine aK.go 1000 ?_
    simp only [go_sem,Nh,EH]
    refine aq.Ac (f:=.fn 71 [] []) (args:=[.os 0 0 c.length 5, .int .i64 k, .int .i64 ((k+1:Nat):Int)]) (B:=.row (lits c) 0) 2 rfl (ct _) ⟨trivial,trivial⟩ ⟨cn,trivial,trivial,trivial⟩ ((J8 c k q1 (by omega)).mono ?_)
    rintro r σ' ⟨rfl,rfl⟩
    refine ⟨cn,_,rfl,ct _,?_⟩
    have yb:(r9 c k).length=c.length - 1:=by simp only [r9,ay,cW,cg];omega
    rw [show c.take k++c.drop (k+1)=r9 c k from rfl,← yb]
    simp only [go_sem,cZ,df]
    refine aK.go 1000 ?_
    simp only [go_sem,hw]
    refine ⟨⟨(i+1,L,r9 c k),by simp only;omega,aO,by simp only;omega,by simp only;omega,fun x hx=>?_⟩,[],iF rfl ?_,by simp only;omega⟩
    ·rcases aX.1 hx with hx | hx
     ·exact sK x (lL hx)
     ·exact sK x (List.mem_of_mem_drop hx)
    simp only [go_sem,ct,cz (ct _),HO (ct L)]
  ·have dR:i=a.length:=by omega
   subst dR
   rw [aV,eG,bn] at aO
   unfold wN
   simp only [go_sem,bD]
   refine aK.go 1000 ?_
   simp only [go_sem]
   rw [← aO,rN rfl rfl];trivial
def zg (g:List Sy) (a b:Li):Bool:=decide ((qf g a b).2=0)&&decide ((qf g a b).1=1)
def vj (g:List Sy):ae:=.fn 197 [] [.pp [.ps 4 (syms g)]]
@[go_sem] theorem FE {n:Nat} (g:List Sy):ae.low n (vj g)=True:=eq_true ⟨trivial,⟨⟨dF _,trivial⟩,trivial⟩⟩
@[go_sem] theorem Xac {π:Nat→Nat} (g:List Sy):dI π (vj g)=vj g:=zT (of_eq_true (FE g))
def pK (g:List Sy) (l:Li):Prop:=rr l∧(l.check g=0→yG g l)
theorem Zty (g:List Sy) (hg:tn g) (lR:g.length<1000000) (a b:Li) (ha:pK g a) (hb:pK g b) :
  aJ Tryz.prog 197 [a.aN,b.aN, .pp [.ps 4 (syms g)]] (.bool (zg g a b)):=by
 refine aJ.begin (rs:=[.tmp 5]) (m:=18) 1000 Tryz.func197 rfl rfl rfl (by decide) trivial ?_
 have h:=Zti g hg lR a b ha.1 hb.1 ha.2 hb.2
 unfold zg
 generalize qf g a b=z at *
 simp only [go_sem,ku]
 refine aq.bU [] h (cH _ _ _) ⟨dF _,mQ _,mQ _,trivial⟩ ?_
 rw [jd];simp only [ite_self]
 refine aK.go 1000 ?_
 by_cases h1:z.2=0
 ·simp only [go_sem,h1,decide_true,cu]
 ·simp only [go_sem,h1,decide_false,db]
theorem Zb (g:List Sy) (hg:tn g) (lR:g.length<1000000) (x y:Li) (hx:pK g x) (hy:pK g y) :
  aq Tryz.prog (.fn 217 [] [.ptr 0 0, .ptr 1 0]) [x.aN] [some (.var [vj g]),uz y] (fun r σ'=>r = .bool (zg g x y)∧σ'=[some (.var [vj g]),uz y]):=by
 unfold uz
 refine aq.begin (rs:=[.tmp 4]) (m:=6) 1000 Tryz.func217 rfl rfl rfl rfl rfl ?_
 have h:=Zty g hg lR x y hx hy
 simp only [go_sem,ku,vj]
 refine aq.bU [] h (cH _ _ _) ⟨mQ _,mQ _,⟨dF _,trivial⟩,trivial⟩ ?_
 simp only [bL,bZ,bX,if_true]
 refine aK.go 1000 ?_
 simp only [go_sem]
 rw [fL]
 exact ⟨[some (.var [vj g]),uz y],by simp [uz,vj,go_sem],by simp,⟨⟨of_eq_true (FE g),trivial⟩,⟨trivial,trivial,bP _,trivial,bP _,trivial⟩,trivial⟩,trivial,rfl,rfl⟩
def ki (g:List Sy) (a:List Li):List Li→Bool
 | []=>decide (0<a.length)
 | y :: b=>if a.any (fun x=>zg g x y)=true then ki g a b else false
theorem UB (g:List Sy) (hg:tn g) (lR:g.length<1000000) (a b:List Li) (ha:a.length<1000000) (hb:b.length<1000000) (qQ:∀ x∈a,pK g x) (Ax:∀ x∈b,pK g x) :
  aJ Tryz.prog 199 [.ps 5 (lits a), .ps 5 (lits b),vj g] (.bool (ki g a b)):=by
 refine aJ.begin (rs:=[.tmp 6]) (m:=20) 1000 Tryz.func199 rfl rfl rfl (by decide) trivial ?_
 have gc:(vj g).cells=[vj g]:=rfl
 have gi:(vj g).cI=true:=rfl
 simp only [go_sem,fO,gc,gi]
 refine aK.c9 (ι:={i:Nat // i≤b.length∧ki g a (b.drop i)=ki g a b}) 1000 (fun q=>fD 23 [(0, .ps 5 (lits a)),(5, .ptr 0 0),(6, .bool false),(9, .ps 5 (lits b)),(10, .int .i64 b.length),(11, .int .i64 q.1)])
  (fun _=>[some (.var [vj g])]) (fun q=>b.length - q.1) ⟨0,by simp⟩ ?_ (fun _=>av _) ?_
 ·simp only [go_sem,ct]
 ·rintro ⟨i,hi,aO⟩
  by_cases bD:(i:Int)<b.length
  ·have aZ:i<b.length:=by omega
   have hw:IntKind.i64.wrap ((i:Int)+1)=((i+1:Nat):Int):=by rw [ep (by omega)];omega
   have rP:=tG aZ
   have hyo:=Ax _ (aF aZ)
   rw [ak aZ,ki] at aO
   generalize b[i]=y at *
   have iL:bt 2 [some (bE.var [vj g]),uz y]:=⟨⟨of_eq_true (FE g),trivial⟩,⟨trivial,trivial,bP _,trivial,bP _,trivial⟩,trivial⟩
   have hc:=Hi [some (bE.var [vj g]),uz y] (.fn 217 [] [.ptr 0 0, .ptr 1 0]) (fun x=>zg g x y) a (by omega) iL (by simp [go_sem]) (fun j hj=>Zb g hg lR a[j] y (qQ _ (aF hj)) hyo)
   unfold uz at hc
   simp only [go_sem,bD,fO,rP,ku]
   refine ⟨by omega,?_⟩
   refine hc.mono ?_
   rintro r σ' ⟨rfl,rfl⟩
   cases h3:a.any (fun x=>zg g x y)
   ·rw [h3] at aO
    simp only [a8,if_false] at aO
    refine aK.go 1000 ?_
    simp only [go_sem]
    refine aK.go 1000 ?_
    simp only [go_sem,← aO]
   ·rw [h3,if_pos rfl] at aO
    refine aK.go 1000 ?_
    simp only [go_sem,hw]
    refine ⟨⟨i+1,by omega,aO⟩,?_,by simp only;omega⟩
    simp only [go_sem,ct]
  ·have dR:i=b.length:=by omega
   subst dR
   rw [aV,ki] at aO
   simp only [go_sem,bD]
   refine aK.go 1000 ?_
   simp only [go_sem,fO,← aO]
   exact congrArg ae.bool (decide_eq_decide.2 (by omega))
def oL (g:List Sy) (a b:List Li):Int×Int :=
 if a_ g a≠0 then (0,a_ g a) else if a_ g b≠0 then (0,a_ g b) else
 if (eG a b).length+(eG b a).length=0 then (0,0) else if ki g (eG a b) (eG b a)=true then (1,0) else if ki g (eG b a) (eG a b)=true then (-1,0) else (2,0)
theorem HS:∀ (a b:List Li) (t:Li),t∈eG a b→t∈a
 | [],_,t,h=>by rw [eG] at h;cases h
 | x :: a,b,t,h=>by
  rw [eG] at h
  split at h
  ·rcases aP.1 h with rfl | h
   ·simp
   ·exact cq _ (HS a b t h)
  ·exact cq _ (HS a _ t h)
theorem HR:∀ (a b:List Li),(eG a b).length≤a.length
 | [],_=>by rw [eG];exact ah _
 | x :: a,b=>by
  rw [eG]
  split
  ·have:=HR a b;simp only [au];omega
  ·have:=HR a (r9 b (dH (fun y=>eV x y) b 0).toNat);simp only [au];omega
theorem Ztn (g:List Sy) (hg:tn g) (lR:g.length<1000000) (a b:List Li) (Ms:a≠[]) (xr:b≠[]) (ha:a.length<500000) (hb:b.length<500000) (qQ:∀ x∈a,pK g x) (Ax:∀ x∈b,pK g x) :
  aJ Tryz.prog 172 [.ps 4 (syms g), .ps 5 (lits a), .ps 5 (lits b)] (.dy [.int .i64 (oL g a b).1, .int .i64 (oL g a b).2]):=by
 refine aJ.begin (rs:=[.tmp 6, .tmp 7]) (m:=46) 1000 Tryz.func172 rfl rfl rfl (by decide) ⟨trivial,trivial,trivial⟩ ?_
 have k1:=E5 g a (fun i h=>by have:=(qQ _ (aF h)).1;exact ⟨by have:=this.1;omega,by have:=this.2;omega⟩)
 have k2:=E5 g b (fun i h=>by have:=(Ax _ (aF h)).1;exact ⟨by have:=this.1;omega,by have:=this.2;omega⟩)
 simp only [go_sem]
 refine aq.bU [] k1 (cH _ _ _) ⟨dF _,ct _,trivial⟩ ?_
 simp only [bL,bZ,bX,if_true]
 refine aK.go 1000 ?_
 by_cases h1:a_ g a=0
 ·simp only [go_sem,h1]
  refine aq.bU [] k2 (cH _ _ _) ⟨dF _,ct _,trivial⟩ ?_
  simp only [bL,bZ,bX,if_true]
  refine aK.go 1000 ?_
  by_cases h2:a_ g b=0
  ·have hr:oL g a b=if (eG a b).length+(eG b a).length=0 then (0,0) else if ki g (eG a b) (eG b a)=true then (1,0) else if ki g (eG b a) (eG a b)=true then (-1,0) else (2,0):=by
    unfold oL;rw [if_neg (by simp [h1]),if_neg (by simp [h2])]
   have VU:∀ t∈a,rr t:=fun t ht=>(qQ t ht).1
   have VW:∀ t∈b,rr t:=fun t ht=>(Ax t ht).1
   have l1:=HR a b
   have l2:=HR b a
   have m1:∀ t∈eG a b,pK g t:=fun t ht=>qQ t (HS _ _ t ht)
   have m2:∀ t∈eG b a,pK g t:=fun t ht=>Ax t (HS _ _ t ht)
   have o1:=UB g hg lR (eG a b) (eG b a) (by omega) (by omega) m1 m2
   have o2:=UB g hg lR (eG b a) (eG a b) (by omega) (by omega) m2 m1
   rw [hr]
   simp only [go_sem,h2]
   refine aq.bU [] (T3 a b xr (by omega) (by omega) VU VW) (cH _ _ _) ⟨ct _,ct _,⟨trivial,trivial⟩,trivial⟩ ?_
   rw [jd];simp only [ite_self]
   refine aK.go 1000 ?_
   simp only [go_sem]
   refine aq.bU [] (T3 b a Ms (by omega) (by omega) VW VU) (cH _ _ _) ⟨ct _,ct _,⟨trivial,trivial⟩,trivial⟩ ?_
   rw [jd];simp only [ite_self]
   generalize eG a b=x at *
   generalize eG b a=y at *
   have rR:IntKind.i64.wrap ((x.length:Int)+y.length)=((x.length+y.length:Nat):Int):=by rw [ep (by omega)];omega
   refine aK.go 1000 ?_
   by_cases h3:x.length+y.length=0
   ·rw [if_pos h3]
    have h4:((x.length+y.length:Nat):Int)=0:=by omega
    simp only [go_sem,fO,rR,h4]
   ·rw [if_neg h3]
    have h4:¬ ((x.length+y.length:Nat):Int)=0:=by omega
    simp only [go_sem,fO,rR,h4]
    refine aq.sS (b:=0) (cs:=[.ps 4 (syms g)]) [] rfl o1 (cH _ _ _) ⟨ct _,ct _,of_eq_true (FE g),trivial⟩ rfl ?_
    refine aK.go 1000 ?_
    cases h5:ki g x y
    ·simp only [go_sem,h5]
     refine aq.sS (b:=0) (cs:=[.ps 4 (syms g)]) [] rfl o2 (cH _ _ _) ⟨ct _,ct _,of_eq_true (FE g),trivial⟩ rfl ?_
     refine aK.go 1000 ?_
     cases h6:ki g y x
     ·simp only [go_sem,h6]
     ·simp only [go_sem,h6]
    ·simp only [go_sem,h5]
  ·have hr:oL g a b=(0,a_ g b):=by unfold oL;rw [if_neg (by simp [h1]),if_pos h2]
   rw [hr]
   simp only [go_sem,h2]
 ·have hr:oL g a b=(0,a_ g a):=by unfold oL;rw [if_pos h1]
  rw [hr]
  simp only [go_sem,h1]
theorem RM {P:Program} {lo:Ctx} {Q:cb→St→Prop} {k:List KI} {ops:Array Oper} {l:List Oper} {fs:List Fp} {tm:List ae} {σ m:ai} {d:Option Tmp} {g:FuncId} {first captured args args':List ae} {r:ae} {wr:List Nat} {b:Nat} {cs:List ae} (hb:bF m b=some (.var cs)) (hc:aJ P g args' r)
  (hp:kz (among []) (m.set b none) args' ((first++args++captured).map (tj b cs))) (hl:bx 0 args') (CY:bL r=true)
  (h:iq P lo Q k ops l fs (put tm d r) (dD wr 0 m σ)):r8 P lo Q k ops wr d l fs tm σ m (.fn g first captured) args :=
 ⟨r,m,aq.sS [] hb hc hp hl CY ⟨rfl,rfl⟩,zK wr m 0,h⟩
def nq (g:List Sy) (t:Tm):Bool:=decide (0≤t.head)&&((g[t.head.toNat]?).map Sy.cA).getD false
theorem SA (g:List Sy) (t:Tm) (ht:t.head<g.length):aJ Tryz.prog 168 [t.aN, .pp [.ps 4 (syms g)]] (.bool (nq g t)):=by
 refine aJ.begin (rs:=[.tmp 3]) (m:=13) 1000 Tryz.func168 rfl rfl rfl (by decide) trivial ?_
 unfold nq
 by_cases h : 0≤t.head
 ·have hk:t.head.toNat<g.length:=by omega
  have MW:=xi hk
  have hh:((g[t.head.toNat]?).map Sy.cA).getD false=(g[t.head.toNat]).cA:=by simp [hk]
  simp only [go_sem,fq,h,rB,MW,xj,decide_true,cu,hh]
  exact ht
 ·simp only [go_sem,fq,h,decide_false,db]
def n5 (g:List Sy) (u:Un) (t:Tm) (m:List Bd×Bool×Int) (s:Tm×Int) (k q:Int×Int):Tm×Bool :=
 if nq g u.l≠nq g t then (t,false) else if m.2.2≠0∨m.2.1=false then (t,false) else if s.2≠0 then (t,false) else
 if k.2≠0∨k.1≠1 then (t,false) else (s.1,decide (q.2=0)&&decide (q.1 = -1))
theorem YL (g:List Sy) (u:Un) (t:Tm) (c:List Li) (m:List Bd×Bool×Int) (s:Tm×Int) (k q:Int×Int) (hl:u.l.head<g.length) (ht:t.head<g.length)
  (hM:aJ Tryz.prog 169 [u.l.aN,t.aN] (.dy [.ps 3 (nR m.1), .bool m.2.1, .int .i64 m.2.2]))
  (hA:m.2.2=0→m.2.1=true→aJ Tryz.prog 170 [.ps 3 (nR m.1),u.r.aN] (.dy [s.1.aN, .int .i64 s.2]))
  (hK:m.2.2=0→m.2.1=true→s.2=0→aJ Tryz.prog 171 [.ps 4 (syms g),t.aN,s.1.aN] (.dy [.int .i64 k.1, .int .i64 k.2]))
  (hC:m.2.2=0→m.2.1=true→s.2=0→k.2=0→k.1=1→aJ Tryz.prog 172 [.ps 4 (syms g), .ps 5 (lits [⟨false,t,s.1⟩]), .ps 5 (lits c)] (.dy [.int .i64 q.1, .int .i64 q.2])) :
  aJ Tryz.prog 141 [.ps 4 (syms g),u.aN,t.aN, .ps 5 (lits c)] (.dy [(n5 g u t m s k q).1.aN, .bool (n5 g u t m s k q).2]):=by
 refine aJ.begin (rs:=[.cell 8 70, .tmp 9]) (m:=80) 1000 Tryz.func141 rfl rfl rfl (by decide) ⟨dE _,trivial,trivial⟩ ?_
 have t1:=SA g u.l hl
 have t2:=SA g t ht
 have e1:tj 0 [.ps 4 (syms g)] (.ptr 0 0) = .pp [.ps 4 (syms g)]:=by simp [tj,xQ]
 simp only [go_sem,Ee,fq]
 refine aK.draw [] 4 4 mixed rfl rfl (by decide) ?_
 simp only [go_sem,dA]
 refine RM (b:=0) (cs:=[.ps 4 (syms g)]) rfl t1 (by simp only [dc];exact cH _ _ _) ⟨dE _,⟨dF _,trivial⟩,trivial⟩ rfl ?_
 simp only [go_sem]
 refine RM (b:=0) (cs:=[.ps 4 (syms g)]) rfl t2 (by simp only [dc];exact cH _ _ _) ⟨dE _,⟨dF _,trivial⟩,trivial⟩ rfl ?_
 obtain ⟨z,hz⟩:∃ z,n5 g u t m s k q=z:=⟨_,rfl⟩
 rw [hz]
 unfold n5 at hz
 generalize nq g u.l=p1 at *
 generalize nq g t=p2 at *
 by_cases hp:p1=p2
 ·subst hp
  rw [if_neg (by simp)] at hz
  have Nq:(p1==p1)=true:=by simp
  simp only [go_sem,Nq]
  refine aK.go 1000 ?_
  simp only [go_sem]
  refine aq.bU [] hM (by simp only [dc];exact cH _ _ _) ⟨dE _,dE _,trivial⟩ ?_
  rw [jd];simp only [ite_self]
  refine aK.go 1000 ?_
  by_cases c1:m.2.2=0
  ·cases c2:m.2.1 with
   | false =>
    rw [if_pos (.inr c2)] at hz
    subst hz
    simp only [go_sem,c1]
    rw [dc]
    exact cH _ _ _
   | true =>
    rw [if_neg (by simp [c1,c2])] at hz
    simp only [go_sem,c1]
    refine aq.bU [] (hA c1 c2) (by simp only [dc];exact cH _ _ _) ⟨of_eq_true (Ek _),dE _,trivial⟩ ?_
    rw [jd];simp only [ite_self]
    refine aK.go 1000 ?_
    by_cases c3:s.2=0
    ·rw [if_neg (by simp [c3])] at hz
     simp only [go_sem,c3,fq]
     refine aq.bU [] (hK c1 c2 c3) (by simp only [dc];exact cH _ _ _) ⟨dF _,dE _,dE _,trivial⟩ ?_
     rw [jd];simp only [ite_self]
     refine aK.go 1000 ?_
     by_cases c4:k.2=0
     ·by_cases c5:k.1=1
      ·rw [if_neg (by simp [c4,c5])] at hz
       subst hz
       simp only [go_sem,c4,c5]
       refine aq.bU [5] (hC c1 c2 c3 c4 c5) ?_ ⟨dF _,ct _,ct _,trivial⟩ ?_
       ·simp only [go_sem,lits,aI,aS]
        exact vX _ _ (.agg _)
       rw [show bL (ae.dy [.int .i64 q.1, .int .i64 q.2])=true from rfl]
       simp only [if_true]
       refine aK.go 1000 ?_
       by_cases c6:q.2=0
       ·simp only [go_sem,c6,decide_true,cu,fq]
        rw [dc]
        exact cH _ _ _
       ·simp only [go_sem,c6,decide_false,db,fq]
        rw [dc]
        exact cH _ _ _
      ·rw [if_pos (.inr c5)] at hz
       subst hz
       simp only [go_sem,c4,c5]
       rw [dc]
       exact cH _ _ _
     ·rw [if_pos (.inl c4)] at hz
      subst hz
      simp only [go_sem,c4]
      rw [dc]
      exact cH _ _ _
    ·rw [if_pos c3] at hz
     subst hz
     simp only [go_sem,c3,fq]
     rw [dc]
     exact cH _ _ _
  ·rw [if_pos (.inl c1)] at hz
   subst hz
   simp only [go_sem,c1]
   rw [dc]
   exact cH _ _ _
 ·rw [if_pos hp] at hz
  subst hz
  have Nq:(p1==p2)=false:=by simpa using hp
  simp only [go_sem,Nq]
  refine aK.go 1000 ?_
  simp only [go_sem,dc]
end Go.Proofs
namespace Go.Proofs
open Go Go.cV
theorem Ymu {g:List Sy} {h:Int} (h0 : 0≤h) (h1:h<g.length):Ab g h=(lu g h).arity:=by
 have hk:h.toNat<g.length:=by omega
 simp [Ab,lu,List.getD,hk]
mutual
theorem S5 (g:List Sy):∀ t:Tm,t.good=true→t.known g=true→t.BS g∧t.Cx g
 | .mk h ts,hg,hk=>by
  rw [Tm.good] at hg
  rw [Tm.known] at hk
  simp only [aD,bT,cE,b9,decide_eq_true_eq,decide_eq_false_iff_not,eY] at hg hk
  rw [Tm.BS,Tm.Cx]
  by_cases hn:h<0
  ·have rG:ts=[]:=by
    have:=hg.1.1.1.1
    rcases this with h1 | h1
    ·exact absurd hn h1
    ·exact aY (by omega)
   subst rG
   exact ⟨⟨by omega,trivial⟩,fun h0=>by omega,trivial⟩
  ·rcases hk with hk | ⟨⟨k1,k2⟩,k3⟩
   ·exact absurd hk hn
   ·obtain ⟨a1,a2⟩:=Q9 g ts hg.2 k3
    exact ⟨⟨by omega,a1⟩,fun h0=>by rw [Ymu h0 (by omega)];exact k2,a2⟩
theorem Q9 (g:List Sy):∀ ts:List Tm,Tm.fT ts=true→Tm.gM g ts=true→Tm.yD g ts∧Tm.xJ g ts
 | [],_,_=>⟨trivial,trivial⟩
 | t :: ts,hg,hk=>by
  rw [Tm.fT] at hg
  rw [Tm.gM] at hk
  simp only [aD] at hg hk
  obtain ⟨a1,a2⟩:=S5 g t hg.1 hk.1
  obtain ⟨b1,b2⟩:=Q9 g ts hg.2 hk.2
  exact ⟨⟨a1,b1⟩,a2,b2⟩
end
theorem sE {t:Tm} (h:t.check=0):t.size≤400∧t.depth≤40∧t.good=true:=by
 unfold Tm.check at h
 by_cases h1 : 400<t.size
 ·rw [if_pos h1] at h;cases h
 ·rw [if_neg h1] at h
  by_cases h2 : 40<t.depth
  ·rw [if_pos h2] at h;cases h
  ·rw [if_neg h2] at h
   cases h3:t.good with
   | false=>rw [h3] at h;simp at h
   | true=>exact ⟨by omega,by omega,rfl⟩
theorem HZ {g:List Sy} {t:Tm} (h:t.term g=0) (hf:t.fit):jr g t:=by
 obtain ⟨h1,h2,_⟩:=ph h
 obtain ⟨c1,_,c3⟩:=sE h1
 obtain ⟨a1,a2⟩:=S5 g t c3 h2
 exact ⟨by omega,a1,a2,hf⟩
theorem Ylz (bs:List Bd) (N:Nat) (hN : 1≤N) (hb:∀ b∈bs,b.t.size≤N):∀ t:Tm,t.head<0→t.args=[]→(t.sub bs).size≤N
 | .mk h ts,h0,h1=>by
  rw [OD h0,p0]
  cases hf:bs.find? (fun b=>b.v == -1 - (Tm.mk h ts).head) with
  | some b=>exact hb b (bQ hf)
  | none =>
   simp only [j7,ez]
   rw [oA,h1];simp [Tm.bG];omega
mutual
theorem Ke (bs:List Bd) (N:Nat) (hN : 1≤N) (hb:∀ b∈bs,b.t.size≤N):∀ t:Tm,t.good=true→(t.sub bs).size≤t.size*N
 | .mk h ts,hg=>by
  rw [Tm.good] at hg
  simp only [aD,bT,cE,decide_eq_false_iff_not,eY] at hg
  by_cases hn:h<0
  ·have rG:ts=[]:=by
    rcases hg.1.1.1.1 with h1 | h1
    ·exact absurd hn h1
    ·exact aY (by omega)
   have:=Ylz bs N hN hb (.mk h ts) hn rG
   have hs:(Tm.mk h ts).size=1:=by rw [oA];simp [Tm.args,rG,Tm.bG]
   rw [hs];omega
  ·rw [Tm.sub,if_neg hn,Tm.size,Tm.size,bH]
   have:=Rm bs N hN hb ts hg.2
   omega
theorem Rm (bs:List Bd) (N:Nat) (hN : 1≤N) (hb:∀ b∈bs,b.t.size≤N):∀ ts:List Tm,Tm.fT ts=true→Tm.bG (Tm.rX bs ts)≤Tm.bG ts*N
 | [],_=>by simp [Tm.rX,Tm.bG]
 | t :: ts,hg=>by
  rw [Tm.fT] at hg
  simp only [aD] at hg
  rw [Tm.rX,Tm.bG,Tm.bG,bH]
  have a1:=Ke bs N hN hb t hg.1
  have a2:=Rm bs N hN hb ts hg.2
  omega
end
theorem Ynv {g:List Sy} (h:fV g=true):tn g∧g.length≤256:=by
 unfold fV at h
 simp only [aD,bT,cE,decide_eq_false_iff_not,bp,cw] at h
 obtain ⟨⟨⟨h1,h2⟩,h3⟩,_⟩:=h
 refine ⟨fun s hs=>?_,by omega⟩
 obtain ⟨i,hi,rfl⟩:=lJ.1 hs
 have h4:=h3 i hi
 unfold uB at h4
 rw [Fz hi] at h4
 simp only [aD,Sy.right,bT,cE,decide_eq_false_iff_not] at h4
 omega
theorem J0 {g:List Sy} {t:Tm} (h:t.term g=0):fV g=true:=by
 unfold Tm.term at h
 cases hs:fV g with
 | false=>rw [hs] at h;simp at h
 | true=>rfl
theorem Rg {g:List Sy} {l:Li} (hs:rr l) (hf:l.l.fit∧l.r.fit):pK g l:=⟨hs,fun h=>⟨HZ (A8 h).1 hf.1,HZ (A8 h).2 hf.2⟩⟩
theorem Ymz {t:Tm} {i:Nat} (h:i<t.args.length) (p:List Int):t.po ((i:Int) :: p)=(t.args[i]).po p:=by
 rw [Tm.po,if_neg (by omega)]
 simp [h]
mutual
theorem Ib:∀ (t:Tm) (q p:List Int),p∈t.gJ q→∃ p',p=q++p'∧p'.length<t.size∧∃ v,t.po p'=some v∧v.size≤t.size
 | .mk h ts,q,p,hp=>by
  rw [Tm.gJ] at hp
  rcases aP.1 hp with rfl | hp
  ·exact ⟨[],by simp,by rw [Tm.size];simp only [aR];omega,_,rfl,ah _⟩
  ·obtain ⟨j,hj,p',rfl,h1,v,h2,h3⟩:=RE ts q 0 p hp
   have h4:=tb (aF hj)
   refine ⟨((j:Int)) :: p',by simp,?_,v,?_,?_⟩
   ·rw [Tm.size];simp only [au];omega
   ·rw [Ymz (t:=.mk h ts) hj];exact h2
   ·rw [Tm.size];omega
theorem RE:∀ (ts:List Tm) (q:List Int) (i:Nat) (p:List Int),p∈Tm.kO ts q i→∃ (j:Nat) (hj:j<ts.length) (p':List Int),p=q++(((i+j:Nat):Int) :: p')∧p'.length<(ts[j]).size∧∃ v,(ts[j]).po p'=some v∧v.size≤(ts[j]).size
 | [],_,_,p,hp=>by rw [Tm.kO] at hp;cases hp
 | t :: ts,q,i,p,hp=>by
  rw [Tm.kO] at hp
  rcases aX.1 hp with hp | hp
  ·obtain ⟨p',rfl,h1,v,h2,h3⟩:=Ib t _ p hp
   exact ⟨0,by simp,p',by simp,h1,v,h2,h3⟩
  ·obtain ⟨j,hj,p',rfl,h1,v,h2,h3⟩:=RE ts q (i+1) p hp
   exact ⟨j+1,by simpa using hj,p',by rw [show i+1+j=i+(j+1) by omega],by simpa using h1,v,by simpa using h2,by simpa using h3⟩
end
end Go.Proofs
namespace Go.Proofs
open Go Go.cV
attribute [local go_sem] Nat.reduceAdd Nat.reduceSub Nat.reduceMul Nat.reduceLeDiff Nat.reduceEqDiff Nat.reduceBEq Nat.reduceLT Nat.le_refl Int.natCast_zero Nat.sub_zero List.length_map Int.toNat_natCast Int.natCast_one Int.reduceEq Int.reduceLT Int.reduceLE Int.reduceNe Int.sub_zero Int.zero_add Int.toNat_one
def cU (i:Nat) (rt:Bool) (t:Tm):List mG:=(t.gJ []).map fun p=>⟨(i:Int),rt,p,(t.po p).getD gT⟩
def kI (i:Nat) (l:Li):List mG:=cU i false l.l++cU i true l.r
def cG:List Li→Nat→List mG
 | [],_=>[]
 | l :: c,i=>kI i l++cG c (i+1)
theorem Zi (c:List Li) (σ:ai) (hs:bt σ.length σ):aq Tryz.prog (.fn 140 [] []) [.ps 5 (lits c)] σ
  (fun r σ'=>r = .fn 165 [] [.ptr σ.length 0]∧σ' = σ++[some (.var [.ps 5 (lits c)])]):=by
 refine aq.begin (rs:=[.tmp 2]) (m:=3) 1000 Tryz.func140 rfl rfl rfl rfl rfl ?_
 simp only [go_sem]
 rw [Bf,fL]
 exact ⟨_,fx _,by simp,o9 (nA (by simp) hs) ⟨⟨ct _,trivial⟩,trivial⟩,by simp [go_sem],rfl,rfl⟩
def rm (i:Nat) (l:Li) (j:Nat) (R:List mG):List mG:=if j=0 then cU i false l.l++(cU i true l.r++R) else if j=1 then cU i true l.r++R else R
theorem Ad {N:Nat} {l:List ae} (h:bx N l):oJ 9 9 l:=fun ρ dL=>qn ρ N (fun b _=>dL b (by omega)) l h
theorem Ae {N:Nat} {τ:ai} (h:bt N τ):tO 9 9 τ:=fun ρ dL x hx=>by
 obtain ⟨i,hi⟩:=List.mem_iff_getElem?.1 hx
 exact Bk ρ N (fun b _=>dL b (by omega)) x (qA h i x hi)
theorem SQ (c:List Li) (gK:c.length<1000000) (hc:∀ l∈c,l.l.size≤400∧l.r.size≤400) (b0 b1 b2 b3 b4 b5 b6 b8:Option bE) (E:ai) (k0:Nat) (wS:E.length=9) (Bs:bt 9 E)
  (hs:bt 9 [b0,b1,b2,b3,b4,b5,b6,some (.var [.ps 5 (lits c)]),b8])
  (hy:∀ k (h:k<(cG c 0).length),k<k0→aq Tryz.prog (.ld 8) [(cG c 0)[k].aN] [b0,b1,b2,b3,b4,b5,b6,some (.var [.ps 5 (lits c)]),b8] (fun r σ'=>r = .bool true∧σ'=[b0,b1,b2,b3,b4,b5,b6,some (.var [.ps 5 (lits c)]),b8]))
  (hE:∀ h:k0<(cG c 0).length,aq Tryz.prog (.ld 8) [(cG c 0)[k0].aN] [b0,b1,b2,b3,b4,b5,b6,some (.var [.ps 5 (lits c)]),b8] (fun r σ'=>r = .bool false∧σ'=E)) :
  aq Tryz.prog (.fn 165 [] [.ptr 7 0]) [.ld 8] [b0,b1,b2,b3,b4,b5,b6,some (.var [.ps 5 (lits c)]),b8] (fun _ σ'=>σ'=if k0<(cG c 0).length then E else [b0,b1,b2,b3,b4,b5,b6,some (.var [.ps 5 (lits c)]),b8]):=by
 refine aq.begin (rs:=[]) (m:=52) 1000 Tryz.func165 rfl rfl rfl rfl rfl ?_
 obtain ⟨SP,Vh⟩:∃ SP,cG c 0=SP:=⟨_,rfl⟩
 simp only [Vh] at hy hE ⊢
 simp only [go_sem,fO]
 refine aK.c9 (ι:={q:Nat×Nat // q.1≤c.length∧q.2≤k0∧SP.drop q.2=cG (c.drop q.1) q.1}) 1000
  (fun q=>fD 54 [(0, .ld 8),(11, .ps 5 (lits c)),(12, .int .i64 c.length),(13, .int .i64 q.1.1)]) (fun _=>[b0,b1,b2,b3,b4,b5,b6,some (.var [.ps 5 (lits c)]),b8]) (fun q=>c.length - q.1.1) ⟨(0,0),by simp [Vh]⟩ ?_ (fun _=>ah _) ?_
 ·simp only [go_sem,ct]
  exact hs
 ·rintro ⟨⟨i,k⟩,hi,hk,aO⟩
  simp only at hi hk aO
  by_cases bD:(i:Int)<c.length
  ·have aZ:i<c.length:=by omega
   have hw:IntKind.i64.wrap ((i:Int)+1)=((i+1:Nat):Int):=by rw [ep (by omega)];omega
   have rP:=tG aZ
   have hls:=hc _ (aF aZ)
   rw [ak aZ,cG,kI,cJ] at aO
   generalize c[i]=l at *
   simp only [go_sem,bD,fO,rP,ku]
   refine ⟨by omega,?_⟩
   obtain ⟨R,hR⟩:∃ R,cG (c.drop (i+1)) (i+1)=R:=⟨_,rfl⟩
   rw [hR] at aO
   have kY:((2:Nat):Int)=2:=rfl
   refine aK.c9 (ι:={q:Nat×Nat // q.1≤2∧q.2≤k0∧SP.drop q.2=rm i l q.1 R}) 1000
    (fun q=>fD 54 [(0, .ld 8),(3, .int .i64 i),(11, .ps 5 (lits c)),(12, .int .i64 c.length),(13, .int .i64 i),(22, .os 10 0 2 2),(23, .int .i64 ((2:Nat):Int)),(24, .int .i64 q.1.1)])
    (fun _=>[b0,b1,b2,b3,b4,b5,b6,some (.var [.ps 5 (lits c)]),b8,none,some (.row [.agg [.int .i64 l.l.head, .ps 2 (l.l.args.map Tm.aN)], .agg [.int .i64 l.r.head, .ps 2 (l.r.args.map Tm.aN)]] 0)]) (fun q=>2 - q.1.1) ⟨(0,k),by simp only [rm,if_true];exact ⟨by omega,hk,aO⟩⟩ ?_ (fun _=>by simp) ?_
   ·have zr:=nA (show 9≤11 by decide) hs
    simp only [go_sem,ct,bP]
    exact o9 zr ⟨trivial,⟨⟨trivial,bP _,trivial⟩,⟨trivial,bP _,trivial⟩,trivial⟩,trivial⟩
   ·rintro ⟨⟨j,k'⟩,hj,eA,qW⟩
    simp only at hj eA qW
    have amM:∀ (j:Nat) (rt:Bool) (t:Tm) (T:List mG),True:=fun _ _ _ _=>trivial
    obtain rfl | rfl | rfl:j=0∨j=1∨j=2:=by omega
    ·simp only [rm,if_true] at qW
     have eX:=Px l.l (by omega)
     simp only [go_sem,kY,bg]
     refine aq.bU [] (eX) (by (try simp only [dc]);exact cH _ _ _) (by simp [go_sem,dE,bP]) ?_;rw [jd];simp only [ite_self];refine aK.go 1000 ?_
     simp only [go_sem,Ef,y8]
     refine aK.c9 (ι:={q:Nat×Nat // q.1≤l.l.size∧q.2≤k0∧SP.drop q.2=(cU i false l.l).drop q.1++(cU i true l.r++R)}) 1000
      (fun q=>fD 54 [(0, .ld 8),(3, .int .i64 i),(5, .int .i64 0),(6, .ptr 11 0),(11, .ps 5 (lits c)),(12, .int .i64 c.length),(13, .int .i64 i),(22, .os 10 0 2 2),(23, .int .i64 ((2:Nat):Int)),(24, .int .i64 0),(30, .ps 1 (oD (l.l.gJ []))),(31, .int .i64 l.l.size),(32, .int .i64 q.1.1)])
      (fun _=>[b0,b1,b2,b3,b4,b5,b6,some (.var [.ps 5 (lits c)]),b8,none,some (.row [.agg [.int .i64 l.l.head, .ps 2 (l.l.args.map Tm.aN)], .agg [.int .i64 l.r.head, .ps 2 (l.r.args.map Tm.aN)]] 0),some (.var [.int .i64 l.l.head, .ps 2 (l.l.args.map Tm.aN)])]) (fun q=>l.l.size - q.1.1) ⟨(0,k'),by simp only [dk];exact ⟨av _,eA,qW⟩⟩ ?_ (fun _=>by simp) ?_
     ·have Nx:=nA (show 9≤12 by decide) hs
      simp only [go_sem,ct,bP,wK,kY]
      exact o9 Nx ⟨trivial,⟨⟨trivial,bP _,trivial⟩,⟨trivial,bP _,trivial⟩,trivial⟩,⟨trivial,bP _,trivial⟩,trivial⟩
     ·rintro ⟨⟨n,k2⟩,hn,qP,jZ⟩
      simp only at hn qP jZ
      by_cases oR:(n:Int)<l.l.size
      ·have Dc:n<(l.l.gJ []).length:=by rw [y8];omega
       have re:IntKind.i64.wrap ((n:Int)+1)=((n+1:Nat):Int):=by rw [ep (by omega)];omega
       have Gl:(oD (l.l.gJ [])).getD n .undef = .ps 1 (ints (l.l.gJ [])[n]):=nP Dc
       obtain ⟨p',yr,hp2,v,hv,me⟩:=Ib l.l [] _ (aF Dc)
       have GN:n<(cU i false l.l).length:=by simp only [cU,ao];exact Dc
       have Dk:(cU i false l.l)[n]=⟨(i:Int),false,(l.l.gJ [])[n],(l.l.po (l.l.gJ [])[n]).getD gT⟩:=by simp [cU]
       rw [bf] at yr
       rw [ak GN,Dk,yr,hv,br] at jZ
       rw [yr] at Gl
       have kS:=Jw l.l p' (by omega) (by omega)
       rw [hv,br] at kS
       simp only [go_sem,oR,Ef,y8,Gl,av]
       refine ⟨by omega,?_⟩
       refine aq.bU [] (kS) (by (try simp only [dc]);exact cH _ _ _) (by simp [go_sem,dE,bP,dp]) ?_;rw [jd];simp only [ite_self];refine aK.go 1000 ?_
       simp only [go_sem,fq,Int.reduceEq]
       have Au:k2<SP.length:=by
        have:=congrArg List.length jZ
        simp only [cg,bj,au] at this;omega
       rw [ak Au,bj] at jZ
       obtain ⟨e1,e2⟩:=jT jZ
       have yC:bt 13 [none,some (bE.row [.agg [.int .i64 l.l.head, .ps 2 (l.l.args.map Tm.aN)], .agg [.int .i64 l.r.head, .ps 2 (l.r.args.map Tm.aN)]] 0),some (bE.var [.int .i64 l.l.head, .ps 2 (l.l.args.map Tm.aN)]),some (bE.var [.int .i64 v.head, .ps 2 (v.args.map Tm.aN)])] :=
        ⟨trivial,⟨⟨trivial,bP _,trivial⟩,⟨trivial,bP _,trivial⟩,trivial⟩,⟨trivial,bP _,trivial⟩,⟨trivial,bP _,trivial⟩,trivial⟩
       by_cases sN:k2<k0
       ·have wm:=hy k2 Au sN
        rw [e1] at wm
        refine aK.qF (σ:=[b0,b1,b2,b3,b4,b5,b6,some (.var [.ps 5 (lits c)]),b8]) (τ:=[none,some (bE.row [.agg [.int .i64 l.l.head, .ps 2 (l.l.args.map Tm.aN)], .agg [.int .i64 l.r.head, .ps 2 (l.r.args.map Tm.aN)]] 0),some (bE.var [.int .i64 l.l.head, .ps 2 (l.l.args.map Tm.aN)]),some (bE.var [.int .i64 v.head, .ps 2 (v.args.map Tm.aN)])]) (.bool true) trivial (ah 9) ?_ ?_ hs (Ad (N:=13) ?_) (Ae yC) ?_ yC ?_
        ·exact cD 8
        ·exact ⟨⟨trivial,trivial,dp _,trivial,bP _,trivial⟩,trivial⟩
        ·simp [go_sem,ct,bP,dp,dE,wK]
        ·simp [go_sem,ct,bP,dp,dE,wK]
        refine wm.mono ?_
        rintro r σ' ⟨rfl,rfl⟩
        refine ⟨rfl,ah _,hs,fun b=>b,[b0,b1,b2,b3,b4,b5,b6,some (.var [.ps 5 (lits c)]),b8],rfl,fun _ _=>rfl,fun _ _ _ _ e=>e,?_,hs,?_⟩
        ·have:=zN (π:=fun b=>b) (B:=[b0,b1,b2,b3,b4,b5,b6,some (.var [.ps 5 (lits c)]),b8]) (own:=[]) (τ:=[]) hs (fun _ _=>rfl) trivial
         simpa using this
        ·refine aK.go 1000 ?_
         simp only [go_sem]
         refine ⟨⟨(n+1,k2+1),by simp only;omega,by simp only;omega,by simp only;exact e2⟩,⟨by rw [re],ct _,o9 (nA (show 9≤12 by decide) hs) ⟨trivial,⟨⟨trivial,bP _,trivial⟩,⟨trivial,bP _,trivial⟩,trivial⟩,⟨trivial,bP _,trivial⟩,trivial⟩⟩,by simp only;omega⟩
       ·have MZ:k2=k0:=by omega
        subst MZ
        have wm:=hE Au
        rw [e1] at wm
        refine aK.qF (σ:=[b0,b1,b2,b3,b4,b5,b6,some (.var [.ps 5 (lits c)]),b8]) (τ:=[none,some (bE.row [.agg [.int .i64 l.l.head, .ps 2 (l.l.args.map Tm.aN)], .agg [.int .i64 l.r.head, .ps 2 (l.r.args.map Tm.aN)]] 0),some (bE.var [.int .i64 l.l.head, .ps 2 (l.l.args.map Tm.aN)]),some (bE.var [.int .i64 v.head, .ps 2 (v.args.map Tm.aN)])]) (.bool false) trivial (ah 9) ?_ ?_ hs (Ad (N:=13) ?_) (Ae yC) ?_ yC ?_
        ·exact cD 8
        ·exact ⟨⟨trivial,trivial,dp _,trivial,bP _,trivial⟩,trivial⟩
        ·simp [go_sem,ct,bP,dp,dE,wK]
        ·simp [go_sem,ct,bP,dp,dE,wK]
        refine wm.mono ?_
        rintro r σ' ⟨rfl,rfl⟩
        refine ⟨rfl,by rw [wS];exact ah _,by rw [wS];exact Bs,fun b=>b,σ',by rw [wS];rfl,fun _ _=>rfl,fun _ _ _ _ e=>e,?_,Bs,?_⟩
        ·have:=zN (π:=fun b=>b) (B:=σ') (own:=[]) (τ:=[]) (by rw [wS];exact Bs) (fun _ _=>rfl) trivial
         simpa using this
        ·rw [if_pos Au]
         refine aK.go 1000 ?_
         simp only [go_sem]
         refine aK.go 1000 ?_
         simp only [go_sem]
         refine aK.go 1000 ?_
         simp only [go_sem]
         refine aK.go 1000 ?_
         simp only [go_sem]
         rw [fL]
         exact ⟨σ',Ip _ _,by rw [wS];exact ah _,by rw [wS];exact Bs,trivial,rfl⟩
      ·have AA:n=l.l.size:=by omega
       have yu:(cU i false l.l).length=l.l.size:=by simp only [cU,ao];exact y8 _ _
       have e0:(cU i false l.l).drop n=[]:=fJ (by omega)
       rw [e0,bf] at jZ
       simp only [go_sem,oR]
       refine aK.go 1000 ?_
       simp only [go_sem]
       refine ⟨⟨(1,k2),by simp only;omega,qP,by simp only [rm];simpa using jZ⟩,?_,by simp only;omega⟩
       exact ⟨⟨rfl,rfl⟩,ct _,o9 (nA (show 9≤11 by decide) hs) ⟨trivial,⟨⟨trivial,bP _,trivial⟩,⟨trivial,bP _,trivial⟩,trivial⟩,trivial⟩⟩
    ·have qW:SP.drop k'=cU i true l.r++R:=by simpa [rm] using qW
     have eX:=Px l.r (by omega)
     simp only [go_sem,kY,bg,bB]
     refine aq.bU [] (eX) (by (try simp only [dc]);exact cH _ _ _) (by simp [go_sem,dE,bP]) ?_;rw [jd];simp only [ite_self];refine aK.go 1000 ?_
     simp only [go_sem,Ef,y8]
     refine aK.c9 (ι:={q:Nat×Nat // q.1≤l.r.size∧q.2≤k0∧SP.drop q.2=(cU i true l.r).drop q.1++R}) 1000
      (fun q=>fD 54 [(0, .ld 8),(3, .int .i64 i),(5, .int .i64 1),(6, .ptr 11 0),(11, .ps 5 (lits c)),(12, .int .i64 c.length),(13, .int .i64 i),(22, .os 10 0 2 2),(23, .int .i64 ((2:Nat):Int)),(24, .int .i64 1),(30, .ps 1 (oD (l.r.gJ []))),(31, .int .i64 l.r.size),(32, .int .i64 q.1.1)])
      (fun _=>[b0,b1,b2,b3,b4,b5,b6,some (.var [.ps 5 (lits c)]),b8,none,some (.row [.agg [.int .i64 l.l.head, .ps 2 (l.l.args.map Tm.aN)], .agg [.int .i64 l.r.head, .ps 2 (l.r.args.map Tm.aN)]] 0),some (.var [.int .i64 l.r.head, .ps 2 (l.r.args.map Tm.aN)])]) (fun q=>l.r.size - q.1.1) ⟨(0,k'),by simp only [dk];exact ⟨av _,eA,qW⟩⟩ ?_ (fun _=>by simp) ?_
     ·have Nx:=nA (show 9≤12 by decide) hs
      simp only [go_sem,ct,bP,wK,kY]
      exact o9 Nx ⟨trivial,⟨⟨trivial,bP _,trivial⟩,⟨trivial,bP _,trivial⟩,trivial⟩,⟨trivial,bP _,trivial⟩,trivial⟩
     ·rintro ⟨⟨n,k2⟩,hn,qP,jZ⟩
      simp only at hn qP jZ
      by_cases oR:(n:Int)<l.r.size
      ·have Dc:n<(l.r.gJ []).length:=by rw [y8];omega
       have re:IntKind.i64.wrap ((n:Int)+1)=((n+1:Nat):Int):=by rw [ep (by omega)];omega
       have Gl:(oD (l.r.gJ [])).getD n .undef = .ps 1 (ints (l.r.gJ [])[n]):=nP Dc
       obtain ⟨p',yr,hp2,v,hv,me⟩:=Ib l.r [] _ (aF Dc)
       have GN:n<(cU i true l.r).length:=by simp only [cU,ao];exact Dc
       have Dk:(cU i true l.r)[n]=⟨(i:Int),true,(l.r.gJ [])[n],(l.r.po (l.r.gJ [])[n]).getD gT⟩:=by simp [cU]
       rw [bf] at yr
       rw [ak GN,Dk,yr,hv,br] at jZ
       rw [yr] at Gl
       have kS:=Jw l.r p' (by omega) (by omega)
       rw [hv,br] at kS
       simp only [go_sem,oR,Ef,y8,Gl,av]
       refine ⟨by omega,?_⟩
       refine aq.bU [] (kS) (by (try simp only [dc]);exact cH _ _ _) (by simp [go_sem,dE,bP,dp]) ?_;rw [jd];simp only [ite_self];refine aK.go 1000 ?_
       simp only [go_sem,fq,Int.reduceEq]
       have Au:k2<SP.length:=by
        have:=congrArg List.length jZ
        simp only [cg,bj,au] at this;omega
       rw [ak Au,bj] at jZ
       obtain ⟨e1,e2⟩:=jT jZ
       have yC:bt 13 [none,some (bE.row [.agg [.int .i64 l.l.head, .ps 2 (l.l.args.map Tm.aN)], .agg [.int .i64 l.r.head, .ps 2 (l.r.args.map Tm.aN)]] 0),some (bE.var [.int .i64 l.r.head, .ps 2 (l.r.args.map Tm.aN)]),some (bE.var [.int .i64 v.head, .ps 2 (v.args.map Tm.aN)])] :=
        ⟨trivial,⟨⟨trivial,bP _,trivial⟩,⟨trivial,bP _,trivial⟩,trivial⟩,⟨trivial,bP _,trivial⟩,⟨trivial,bP _,trivial⟩,trivial⟩
       by_cases sN:k2<k0
       ·have wm:=hy k2 Au sN
        rw [e1] at wm
        refine aK.qF (σ:=[b0,b1,b2,b3,b4,b5,b6,some (.var [.ps 5 (lits c)]),b8]) (τ:=[none,some (bE.row [.agg [.int .i64 l.l.head, .ps 2 (l.l.args.map Tm.aN)], .agg [.int .i64 l.r.head, .ps 2 (l.r.args.map Tm.aN)]] 0),some (bE.var [.int .i64 l.r.head, .ps 2 (l.r.args.map Tm.aN)]),some (bE.var [.int .i64 v.head, .ps 2 (v.args.map Tm.aN)])]) (.bool true) trivial (ah 9) ?_ ?_ hs (Ad (N:=13) ?_) (Ae yC) ?_ yC ?_
        ·exact cD 8
        ·exact ⟨⟨trivial,trivial,dp _,trivial,bP _,trivial⟩,trivial⟩
        ·simp [go_sem,ct,bP,dp,dE,wK]
        ·simp [go_sem,ct,bP,dp,dE,wK]
        refine wm.mono ?_
        rintro r σ' ⟨rfl,rfl⟩
        refine ⟨rfl,ah _,hs,fun b=>b,[b0,b1,b2,b3,b4,b5,b6,some (.var [.ps 5 (lits c)]),b8],rfl,fun _ _=>rfl,fun _ _ _ _ e=>e,?_,hs,?_⟩
        ·have:=zN (π:=fun b=>b) (B:=[b0,b1,b2,b3,b4,b5,b6,some (.var [.ps 5 (lits c)]),b8]) (own:=[]) (τ:=[]) hs (fun _ _=>rfl) trivial
         simpa using this
        ·refine aK.go 1000 ?_
         simp only [go_sem]
         refine ⟨⟨(n+1,k2+1),by simp only;omega,by simp only;omega,by simp only;exact e2⟩,⟨by rw [re],ct _,o9 (nA (show 9≤12 by decide) hs) ⟨trivial,⟨⟨trivial,bP _,trivial⟩,⟨trivial,bP _,trivial⟩,trivial⟩,⟨trivial,bP _,trivial⟩,trivial⟩⟩,by simp only;omega⟩
       ·have MZ:k2=k0:=by omega
        subst MZ
        have wm:=hE Au
        rw [e1] at wm
        refine aK.qF (σ:=[b0,b1,b2,b3,b4,b5,b6,some (.var [.ps 5 (lits c)]),b8]) (τ:=[none,some (bE.row [.agg [.int .i64 l.l.head, .ps 2 (l.l.args.map Tm.aN)], .agg [.int .i64 l.r.head, .ps 2 (l.r.args.map Tm.aN)]] 0),some (bE.var [.int .i64 l.r.head, .ps 2 (l.r.args.map Tm.aN)]),some (bE.var [.int .i64 v.head, .ps 2 (v.args.map Tm.aN)])]) (.bool false) trivial (ah 9) ?_ ?_ hs (Ad (N:=13) ?_) (Ae yC) ?_ yC ?_
        ·exact cD 8
        ·exact ⟨⟨trivial,trivial,dp _,trivial,bP _,trivial⟩,trivial⟩
        ·simp [go_sem,ct,bP,dp,dE,wK]
        ·simp [go_sem,ct,bP,dp,dE,wK]
        refine wm.mono ?_
        rintro r σ' ⟨rfl,rfl⟩
        refine ⟨rfl,by rw [wS];exact ah _,by rw [wS];exact Bs,fun b=>b,σ',by rw [wS];rfl,fun _ _=>rfl,fun _ _ _ _ e=>e,?_,Bs,?_⟩
        ·have:=zN (π:=fun b=>b) (B:=σ') (own:=[]) (τ:=[]) (by rw [wS];exact Bs) (fun _ _=>rfl) trivial
         simpa using this
        ·rw [if_pos Au]
         refine aK.go 1000 ?_
         simp only [go_sem]
         refine aK.go 1000 ?_
         simp only [go_sem]
         refine aK.go 1000 ?_
         simp only [go_sem]
         refine aK.go 1000 ?_
         simp only [go_sem]
         rw [fL]
         exact ⟨σ',Ip _ _,by rw [wS];exact ah _,by rw [wS];exact Bs,trivial,rfl⟩
      ·have AA:n=l.r.size:=by omega
       have yu:(cU i true l.r).length=l.r.size:=by simp only [cU,ao];exact y8 _ _
       have e0:(cU i true l.r).drop n=[]:=fJ (by omega)
       rw [e0,bf] at jZ
       simp only [go_sem,oR]
       refine aK.go 1000 ?_
       simp only [go_sem]
       refine ⟨⟨(2,k2),by simp only;omega,qP,by simp only [rm];simpa using jZ⟩,?_,by simp only;omega⟩
       exact ⟨⟨rfl,by first | rfl | exact congrArg (ae.int .i64) (ep (n:=1+1) (by omega)).symm⟩,ct _,o9 (nA (show 9≤11 by decide) hs) ⟨trivial,⟨⟨trivial,bP _,trivial⟩,⟨trivial,bP _,trivial⟩,trivial⟩,trivial⟩⟩
    ·have jZ:SP.drop k'=R:=by simpa [rm] using qW
     simp only [go_sem,kY,lI]
     refine aK.go 1000 ?_
     simp only [go_sem,hw]
     refine ⟨⟨(i+1,k'),by simp only;omega,eA,by simp only;rw [jZ,hR]⟩,?_,by simp only;omega⟩
     simp only [go_sem,ct]
     exact hs
  ·have dR:i=c.length:=by omega
   subst dR
   rw [aV,cG] at aO
   have hkl:¬ k0<SP.length:=by have:=List.drop_eq_nil_iff.1 aO;omega
   rw [if_neg hkl]
   simp only [go_sem,bD]
   refine aK.go 1000 ?_
   simp only [go_sem]
   rw [fL]
   exact ⟨_,fx _,ah _,hs,trivial,rfl⟩
end Go.Proofs
namespace Go.Proofs
open Go Go.cV
def eN (T:Un→mG→Tm×Bool) (s:mG):List Un→Option (Un×Tm)
 | []=>none
 | u :: us=>if (T u s).2=true then some (u,(T u s).1) else eN T s us
def gj (T:Un→mG→Tm×Bool) (us:List Un):List mG→Option (mG×Un×Tm)
 | []=>none
 | s :: ss=>match eN T s us with
  | some x=>some (s,x)
  | none=>gj T us ss
def kQ (g:List Sy) (T:Un→mG→Tm×Bool) (us:List Un) (c:List Li):List Li×Int×Bool×Int :=
 match gj T us (cG c 0) with
 | none=>(c, -1,false,0)
 | some (s,u,t)=>if a_ g (kL c s t)=0 then (kL c s t,u.off,true,0) else ([],0,false,a_ g (kL c s t))
theorem EV (T:Un→mG→Tm×Bool) (us:List Un):∀ ss:List mG,(gj T us ss=none∧∀ s∈ss,eN T s us=none)∨∃ (k:Nat) (h:k<ss.length) (x:Un×Tm),gj T us ss=some (ss[k],x)∧eN T ss[k] us=some x∧∀ j (hj:j<ss.length),j<k→eN T ss[j] us=none
 | []=>.inl ⟨rfl,fun s h=>by cases h⟩
 | s :: ss=>by
  cases hu:eN T s us with
  | some x=>exact .inr ⟨0,by simp,x,by simp [gj,hu],by simpa using hu,fun j _ h=>by omega⟩
  | none =>
   rcases EV T us ss with ⟨h1,h2⟩ | ⟨k,h,x,h1,h2,h3⟩
   ·refine .inl ⟨by simp [gj,hu,h1],fun y hy=>?_⟩
    rcases aP.1 hy with rfl | hy
    ·exact hu
    ·exact h2 y hy
   ·refine .inr ⟨k+1,by simpa using h,x,by simp [gj,hu,h1],by simpa using h2,fun j hj Vw=>?_⟩
    cases j with
    | zero=>simpa using hu
    | succ j=>simpa using h3 j (by simpa using hj) (by omega)
end Go.Proofs
namespace Go.Proofs
open Go Go.cV
attribute [local go_sem] Nat.reduceAdd Nat.reduceSub Nat.reduceMul Nat.reduceLeDiff Nat.reduceEqDiff Nat.reduceBEq Nat.reduceLT Nat.le_refl Int.natCast_zero Nat.sub_zero List.length_map Int.toNat_natCast Int.natCast_one Int.reduceEq Int.reduceLT Int.reduceLE Int.reduceNe Int.sub_zero Int.zero_add Int.toNat_one
theorem Yiv (g:List Sy) (us:List Un) (c:List Li) (T:Un→mG→Tm×Bool) (wb:us.length<1000000) (gK:c.length<1000000) (hc:∀ l∈c,l.l.size≤400∧l.r.size≤400)
  (hT:∀ u∈us, ∀ s∈cG c 0,aJ Tryz.prog 141 [.ps 4 (syms g),u.aN,s.t.aN, .ps 5 (lits c)] (.dy [(T u s).1.aN, .bool (T u s).2]))
  (hP:∀ u∈us, ∀ s∈cG c 0,aJ Tryz.prog 142 [.ps 5 (lits c),s.aN,(T u s).1.aN] (.ps 5 (lits (kL c s (T u s).1))))
  (hK:∀ u∈us, ∀ s∈cG c 0,(T u s).2=true→aJ Tryz.prog 28 [.ps 4 (syms g), .ps 5 (lits (kL c s (T u s).1))] (.int .i64 (a_ g (kL c s (T u s).1)))) :
  aJ Tryz.prog 109 [.ps 4 (syms g), .ps 5 (jb us), .ps 5 (lits c)] (.dy [.ps 5 (lits (kQ g T us c).1), .int .i64 (kQ g T us c).2.1, .bool (kQ g T us c).2.2.1, .int .i64 (kQ g T us c).2.2.2]):=by
 refine aJ.begin (rs:=[.cell 6 24, .cell 7 3, .cell 8 4, .cell 9 29]) (m:=49) 1000 Tryz.func109 rfl rfl rfl (by decide) ⟨ct _,trivial,trivial,trivial,trivial⟩ ?_
 simp only [go_sem]
 refine (Zi c _ ?_).mono ?_
 ·simp [go_sem,ct,dF,r6]
 rintro _ _ ⟨rfl,rfl⟩
 refine aK.go 1000 ?_
 simp only [go_sem]
 refine aK.rangeFunc (fD 52 [(3, .ptr 0 0),(4, .ptr 1 0),(5, .ptr 2 0),(6, .ptr 3 0),(7, .ptr 4 0),(8, .ptr 5 0),(9, .ptr 6 0)]) ?_ ?_ (fun ρ ht vB kS qM=>?_)
 ·simp only [go_sem]
 ·exact fun b hb=>by cases hb
 simp only [go_sem]
 have jh:∀ n,7≤n→bx n ρ.tm:=fun n hn=>ie hn (show bx 7 ρ.tm by rw [ht];simp [go_sem,zX,z6])
 have fP:∀ (a:ae) (b c' d:ae) (s:fS),a.low 0→b.low 0→c'.low 0→d.low 0→bt 9 [some (bE.var [.ps 4 (syms g)]),some (bE.var [.ps 5 (jb us)]),some (bE.var [.ps 5 (lits c)]),some (bE.var [a]),some (bE.var [b]),some (bE.var [c']),some (bE.var [d]),some (bE.var [.ps 5 (lits c)]),some (bE.loop (ρ.at s))]:=fun a b c' d s h1 h2 h3 h4 =>
  ⟨⟨dF _,trivial⟩,⟨r6 _,trivial⟩,⟨ct _,trivial⟩,⟨mP (av _) h1,trivial⟩,⟨mP (av _) h2,trivial⟩,⟨mP (av _) h3,trivial⟩,⟨mP (av _) h4,trivial⟩,⟨ct _,trivial⟩,jh 9 (by decide),trivial⟩
 have vu:∀ k (h:k<(cG c 0).length),eN T (cG c 0)[k] us=none→aq Tryz.prog (.ld 8) [(cG c 0)[k].aN] [some (bE.var [.ps 4 (syms g)]),some (bE.var [.ps 5 (jb us)]),some (bE.var [.ps 5 (lits c)]),some (bE.var [.aU]),some (bE.var [.int .i64 0]),some (bE.var [.bool false]),some (bE.var [.int .i64 0]),some (bE.var [.ps 5 (lits c)]),some (bE.loop (ρ.at .ready))] (fun r σ'=>r = .bool true∧σ'=[some (bE.var [.ps 4 (syms g)]),some (bE.var [.ps 5 (jb us)]),some (bE.var [.ps 5 (lits c)]),some (bE.var [.aU]),some (bE.var [.int .i64 0]),some (bE.var [.bool false]),some (bE.var [.int .i64 0]),some (bE.var [.ps 5 (lits c)]),some (bE.loop (ρ.at .ready))]):=fun k h Ev=>by
  refine aq.lH 1000 ht vB kS qM rfl rfl ?_
  simp only [go_sem,Kg,sG]
  have jy:=aF h
  have Mn:∀ u∈us,aJ Tryz.prog 141 [.ps 4 (syms g),u.aN,(cG c 0)[k].t.aN, .ps 5 (lits c)] (.dy [(T u (cG c 0)[k]).1.aN, .bool (T u (cG c 0)[k]).2]):=fun u hu=>hT u hu _ jy
  generalize (cG c 0)[k]=sp at *
  have wY:∀ (l:List Un),eN T sp l=none→∀ u∈l,(T u sp).2=false:=fun l=>by
   induction l with
   | nil=>intro _ u hu;cases hu
   | cons a l ih =>
    intro hf u hu
    rw [eN] at hf
    cases ha:(T a sp).2 with
    | true=>rw [ha] at hf;simp at hf
    | false =>
     rw [ha] at hf
     rcases aP.1 hu with rfl | hu
     ·exact ha
     ·exact ih (by simpa using hf) u hu
  have iL:=fP .aU (.int .i64 0) (.bool false) (.int .i64 0) .busy trivial trivial trivial trivial
  have qg:bt 10 [some (bE.var [.ps 4 (syms g)]),some (bE.var [.ps 5 (jb us)]),some (bE.var [.ps 5 (lits c)]),some (bE.var [.aU]),some (bE.var [.int .i64 0]),some (bE.var [.bool false]),some (bE.var [.int .i64 0]),some (bE.var [.ps 5 (lits c)]),some (bE.loop (ρ.at .busy)),some (bE.var [.int .i64 sp.i, .bool sp.rt, .ps 1 (ints sp.p), .int .i64 sp.t.head, .ps 2 (sp.t.args.map Tm.aN)])] :=
   o9 (nA (show 9≤10 by decide) iL) ⟨⟨trivial,trivial,dp _,trivial,bP _,trivial⟩,trivial⟩
  refine aK.c9 (ι:={j:Nat // j≤us.length}) 1000 (fun q=>fD 52 [(3, .ptr 0 0),(4, .ptr 1 0),(5, .ptr 2 0),(6, .ptr 3 0),(7, .ptr 4 0),(8, .ptr 5 0),(9, .ptr 6 0),(10, .ptr 9 0),(20, .ps 5 (jb us)),(21, .int .i64 us.length),(22, .int .i64 q.1)])
   (fun _=>[some (bE.var [.ps 4 (syms g)]),some (bE.var [.ps 5 (jb us)]),some (bE.var [.ps 5 (lits c)]),some (bE.var [.aU]),some (bE.var [.int .i64 0]),some (bE.var [.bool false]),some (bE.var [.int .i64 0]),some (bE.var [.ps 5 (lits c)]),some (bE.loop (ρ.at .busy)),some (bE.var [.int .i64 sp.i, .bool sp.rt, .ps 1 (ints sp.p), .int .i64 sp.t.head, .ps 2 (sp.t.args.map Tm.aN)])])
   (fun q=>us.length - q.1) ⟨0,av _⟩ ?_ (fun _=>by simp) ?_
  ·simp only [go_sem,of_eq_true (show bx 10 (jb us)=True from eq_true (r6 us))]
   exact ⟨dF _,ct _,ct _,jh 10 (by decide),dp _,bP _⟩
  ·rintro ⟨j,hj⟩
   by_cases bD:(j:Int)<us.length
   ·have aZ:j<us.length:=by omega
    have hw:IntKind.i64.wrap ((j:Int)+1)=((j+1:Nat):Int):=by rw [ep (by omega)];omega
    have zn:(jb us).getD j .undef=us[j].aN:=nP aZ
    have EE:=aF aZ
    have kg:=Mn _ EE
    rw [wY us Ev _ EE] at kg
    generalize us[j]=u at *
    simp only [go_sem,bD,sG,zn,Ee]
    refine ⟨by omega,?_⟩
    refine aq.bU [] kg (by simp only [dc];exact cH _ _ _) ⟨dF _,IP u,dE _,ct _,trivial⟩ ?_
    rw [jd];simp only [ite_self]
    refine aK.go 1000 ?_
    simp only [go_sem,fq,hw]
    refine ⟨⟨j+1,by omega⟩,?_,by simp only;omega⟩
    simp only [go_sem,of_eq_true (show bx 10 (jb us)=True from eq_true (r6 us))]
    exact ⟨dF _,ct _,ct _,jh 10 (by decide),dp _,bP _⟩
   ·simp only [go_sem,bD]
    refine aK.go 1000 ?_
    simp only [go_sem]
    rw [tL]
    exact ⟨rfl,[some (bE.var [.ps 4 (syms g)]),some (bE.var [.ps 5 (jb us)]),some (bE.var [.ps 5 (lits c)]),some (bE.var [.aU]),some (bE.var [.int .i64 0]),some (bE.var [.bool false]),some (bE.var [.int .i64 0]),some (bE.var [.ps 5 (lits c)]),some (bE.loop (ρ.at .ready))],by simp [go_sem],ah _,fP _ _ _ _ _ trivial trivial trivial trivial,rfl,rfl⟩
 rcases EV T us (cG c 0) with ⟨f1,f2⟩ | ⟨k,hk,x,f1,f2,f3⟩
 ·refine (SQ c gK hc _ _ _ _ _ _ _ _ _ (cG c 0).length rfl (fP .aU (.int .i64 0) (.bool false) (.int .i64 0) .ready trivial trivial trivial trivial) (fP .aU (.int .i64 0) (.bool false) (.int .i64 0) .ready trivial trivial trivial trivial) (fun k h _=>?_) (fun h=>absurd h (iH _))).mono ?_
  ·exact vu k h (f2 _ (aF h))
  ·have hF:kQ g T us c=(c, -1,false,0):=by unfold kQ;rw [f1]
   rintro r' iO rfl
   rw [if_neg (iH _),Cv]
   refine ⟨.ready,rfl,?_⟩
   rw [D9,hF]
   refine aK.go 1000 ?_
   simp only [go_sem]
 ·have jy:=aF hk
  obtain ⟨z,hz⟩:∃ z,kQ g T us c=z:=⟨_,rfl⟩
  rw [hz]
  obtain ⟨a3,zi⟩:∃ a3:ae,a3=if a_ g (kL c (cG c 0)[k] x.2)=0 then .ps 5 (lits z.1) else .aU:=⟨_,rfl⟩
  have Mt:a3.low 0:=by rw [zi];split<;>simp [go_sem,ct]
  have GO:aq Tryz.prog (.ld 8) [(cG c 0)[k].aN] [some (bE.var [.ps 4 (syms g)]),some (bE.var [.ps 5 (jb us)]),some (bE.var [.ps 5 (lits c)]),some (bE.var [.aU]),some (bE.var [.int .i64 0]),some (bE.var [.bool false]),some (bE.var [.int .i64 0]),some (bE.var [.ps 5 (lits c)]),some (bE.loop (ρ.at .ready))] (fun r σ'=>r = .bool false∧σ'=[some (bE.var [.ps 4 (syms g)]),some (bE.var [.ps 5 (jb us)]),some (bE.var [.ps 5 (lits c)]),some (bE.var [a3]),some (bE.var [.int .i64 z.2.1]),some (bE.var [.bool z.2.2.1]),some (bE.var [.int .i64 z.2.2.2]),some (bE.var [.ps 5 (lits c)]),some (bE.loop (ρ.at (.done .ret)))]):=by
   refine aq.lH 1000 ht vB kS qM rfl rfl ?_
   simp only [go_sem,Kg,sG]
   have AL:z=if a_ g (kL c (cG c 0)[k] x.2)=0 then (kL c (cG c 0)[k] x.2,x.1.off,true,0) else ([],0,false,a_ g (kL c (cG c 0)[k] x.2)):=by
    rw [← hz];unfold kQ;rw [f1]
   have Mn:∀ u∈us,aJ Tryz.prog 141 [.ps 4 (syms g),u.aN,(cG c 0)[k].t.aN, .ps 5 (lits c)] (.dy [(T u (cG c 0)[k]).1.aN, .bool (T u (cG c 0)[k]).2]):=fun u hu=>hT u hu _ jy
   have hPs:=fun u hu=>hP u hu _ jy
   have hKs:=fun u hu=>hK u hu _ jy
   generalize (cG c 0)[k]=sp at *
   have qg:bt 10 [some (bE.var [.ps 4 (syms g)]),some (bE.var [.ps 5 (jb us)]),some (bE.var [.ps 5 (lits c)]),some (bE.var [.aU]),some (bE.var [.int .i64 0]),some (bE.var [.bool false]),some (bE.var [.int .i64 0]),some (bE.var [.ps 5 (lits c)]),some (bE.loop (ρ.at .busy)),some (bE.var [.int .i64 sp.i, .bool sp.rt, .ps 1 (ints sp.p), .int .i64 sp.t.head, .ps 2 (sp.t.args.map Tm.aN)])] :=
    o9 (nA (show 9≤10 by decide) (fP .aU (.int .i64 0) (.bool false) (.int .i64 0) .busy trivial trivial trivial trivial)) ⟨⟨trivial,trivial,dp _,trivial,bP _,trivial⟩,trivial⟩
   refine aK.c9 (ι:={j:Nat // j≤us.length∧eN T sp (us.drop j)=some x}) 1000 (fun q=>fD 52 [(3, .ptr 0 0),(4, .ptr 1 0),(5, .ptr 2 0),(6, .ptr 3 0),(7, .ptr 4 0),(8, .ptr 5 0),(9, .ptr 6 0),(10, .ptr 9 0),(20, .ps 5 (jb us)),(21, .int .i64 us.length),(22, .int .i64 q.1)])
    (fun _=>[some (bE.var [.ps 4 (syms g)]),some (bE.var [.ps 5 (jb us)]),some (bE.var [.ps 5 (lits c)]),some (bE.var [.aU]),some (bE.var [.int .i64 0]),some (bE.var [.bool false]),some (bE.var [.int .i64 0]),some (bE.var [.ps 5 (lits c)]),some (bE.loop (ρ.at .busy)),some (bE.var [.int .i64 sp.i, .bool sp.rt, .ps 1 (ints sp.p), .int .i64 sp.t.head, .ps 2 (sp.t.args.map Tm.aN)])])
    (fun q=>us.length - q.1) ⟨0,av _,by simpa using f2⟩ ?_ (fun _=>by simp) ?_
   ·simp only [go_sem,of_eq_true (show bx 10 (jb us)=True from eq_true (r6 us))]
    exact ⟨dF _,ct _,ct _,jh 10 (by decide),dp _,bP _⟩
   ·rintro ⟨j,hj,BA⟩
    by_cases aZ:j<us.length
    ·have bD:(j:Int)<us.length:=by omega
     have hw:IntKind.i64.wrap ((j:Int)+1)=((j+1:Nat):Int):=by rw [ep (by omega)];omega
     have zn:(jb us).getD j .undef=us[j].aN:=nP aZ
     have EE:=aF aZ
     have kg:=Mn _ EE
     have hPu:=hPs _ EE
     have Vg:=hKs _ EE
     rw [ak aZ,eN] at BA
     generalize us[j]=u at *
     simp only [go_sem,bD,sG,zn,Ee]
     refine ⟨by omega,?_⟩
     refine aq.bU [] kg (by simp only [dc];exact cH _ _ _) ⟨dF _,IP u,dE _,ct _,trivial⟩ ?_
     rw [jd];simp only [ite_self]
     refine aK.go 1000 ?_
     cases hq:(T u sp).2 with
     | false =>
      rw [hq] at BA
      simp only [a8,if_false] at BA
      simp only [go_sem,hq,fq,hw]
      refine ⟨⟨j+1,by omega,BA⟩,?_,by simp only;omega⟩
      simp only [go_sem,of_eq_true (show bx 10 (jb us)=True from eq_true (r6 us))]
      exact ⟨dF _,ct _,ct _,jh 10 (by decide),dp _,bP _⟩
     | true =>
      rw [hq,if_pos rfl] at BA
      obtain rfl:=aM BA
      simp only at AL Vg zi
      simp only [go_sem,hq,fq]
      refine aq.bU [] hPu (by simp only [dc];exact cH _ _ _) ⟨ct _,Yre sp,dE _,trivial⟩ ?_
      rw [jd];simp only [ite_self]
      refine aK.go 1000 ?_
      simp only [go_sem]
      refine aq.bU [] (Vg hq) (cH _ _ _) ⟨dF _,ct _,trivial⟩ ?_
      rw [jd];simp only [ite_self]
      refine aK.go 1000 ?_
      by_cases rE:a_ g (kL c sp (T u sp).1)=0
      ·rw [if_pos rE] at AL zi
       subst AL
       subst zi
       simp only [go_sem,rE]
       refine aK.draw [.no,⟨none,[],[3]⟩,⟨none,[],[3]⟩,⟨none,[3],[]⟩,⟨none,[4],[]⟩,⟨none,[5],[]⟩,⟨none,[6],[]⟩] 12 12 mixed rfl rfl (by decide) ?_
       simp only [go_sem,dA]
       refine aK.go 1000 ?_
       simp only [go_sem]
       refine aK.go 1000 ?_
       simp only [go_sem]
       rw [tL]
       exact ⟨rfl,[some (bE.var [.ps 4 (syms g)]),some (bE.var [.ps 5 (jb us)]),some (bE.var [.ps 5 (lits c)]),some (bE.var [.ps 5 (lits (kL c sp (T u sp).1))]),some (bE.var [.int .i64 u.off]),some (bE.var [.bool true]),some (bE.var [.int .i64 0]),some (bE.var [.ps 5 (lits c)]),some (bE.loop (ρ.at (.done .ret)))],by simp [go_sem],ah _,fP _ _ _ _ _ (ct _) trivial trivial trivial,rfl,rfl⟩
      ·rw [if_neg rE] at AL zi
       subst AL
       subst zi
       simp only [go_sem,rE]
       refine aK.go 1000 ?_
       simp only [go_sem]
       rw [tL]
       exact ⟨rfl,[some (bE.var [.ps 4 (syms g)]),some (bE.var [.ps 5 (jb us)]),some (bE.var [.ps 5 (lits c)]),some (bE.var [.aU]),some (bE.var [.int .i64 0]),some (bE.var [.bool false]),some (bE.var [.int .i64 (a_ g (kL c sp (T u sp).1))]),some (bE.var [.ps 5 (lits c)]),some (bE.loop (ρ.at (.done .ret)))],by simp [go_sem],ah _,fP _ _ _ _ _ trivial trivial trivial trivial,rfl,rfl⟩
    ·rw [fJ (by omega),eN] at BA
     cases BA
  refine (SQ c gK hc _ _ _ _ _ _ _ _ [some (bE.var [.ps 4 (syms g)]),some (bE.var [.ps 5 (jb us)]),some (bE.var [.ps 5 (lits c)]),some (bE.var [a3]),some (bE.var [.int .i64 z.2.1]),some (bE.var [.bool z.2.2.1]),some (bE.var [.int .i64 z.2.2.2]),some (bE.var [.ps 5 (lits c)]),some (bE.loop (ρ.at (.done .ret)))] k rfl (fP _ _ _ _ _ Mt trivial trivial trivial) (fP .aU (.int .i64 0) (.bool false) (.int .i64 0) .ready trivial trivial trivial trivial) (fun j h Vw=>vu j h (f3 j h Vw)) (fun _=>GO)).mono ?_
  rintro r' iO rfl
  rw [if_pos hk,Cv]
  refine ⟨.done .ret,rfl,?_⟩
  rw [Yt3]
  have rH:a_ g (kL c (cG c 0)[k] x.2)≠0→z.1=[]:=fun dX=>by
   rw [← hz];unfold kQ;rw [f1];simp only [if_neg dX]
  by_cases rE:a_ g (kL c (cG c 0)[k] x.2)=0
  ·rw [if_pos rE] at zi
   subst zi
   refine aK.go 1000 ?_
   simp only [go_sem]
  ·rw [if_neg rE] at zi
   subst zi
   rw [rH rE]
   refine aK.go 1000 ?_
   simp only [go_sem,show lits []=[] from rfl]
def w_ (g:List Sy) (us:List Un) (c:List Li) (u:List Int):ai:=[some (.var [.ps 4 (syms g)]),some (.var [.ps 5 (lits c)]),some (.var [ja 4 1 (ints u)]),some (.var [.ps 5 (jb us)]),eJ (ints u)]
def N3 (g:List Sy) (us:List Un) (c:List Li) (u:List Int):ai:=[some (.var [.ps 4 (syms g)]),some (.var [.ps 5 (lits c)]),some (.var [ja 6 1 (ints u)]),some (.var [.ps 5 (jb us)]),none,none,eJ (ints u)]
theorem Yo4 (g:List Sy) (us:List Un) (c:List Li) (u:List Int) (z:List Li×Int×Bool×Int) (hu:u.length<1000000)
  (hS:aJ Tryz.prog 109 [.ps 4 (syms g), .ps 5 (jb us), .ps 5 (lits c)] (.dy [.ps 5 (lits z.1), .int .i64 z.2.1, .bool z.2.2.1, .int .i64 z.2.2.2])) :
  aq Tryz.prog (.fn 108 [] [.ptr 0 0, .ptr 3 0, .ptr 1 0, .ptr 2 0]) [] (w_ g us c u)
   (fun r σ'=>r = .dy [.bool z.2.2.1, .int .i64 z.2.2.2]∧σ'=if z.2.2.2=0∧z.2.2.1=true then N3 g us z.1 (u++[z.2.1]) else w_ g us c u):=by
 unfold w_
 refine aq.begin (rs:=[.tmp 4, .tmp 5]) (m:=27) 1000 Tryz.func108 rfl rfl rfl rfl rfl ?_
 simp only [go_sem]
 refine aq.bU [] hS (cH _ _ _) ⟨dF _,r6 _,ct _,trivial⟩ ?_
 rw [jd];simp only [ite_self]
 refine aK.go 1000 ?_
 have jY:bt 5 (w_ g us c u):=by
  unfold w_
  simp [go_sem,dF,ct,r6,dp]
 by_cases h1:z.2.2.2=0
 ·cases h2:z.2.2.1 with
  | true =>
   have ui:bF [some (bE.var [ae.ps 4 (syms g)]),some (bE.var [ae.ps 5 (lits c)]),some (bE.var [ja 4 1 (ints u)]),some (bE.var [ae.ps 5 (jb us)]),eJ (ints u),some (bE.row [ae.int .i64 z.2.1] 0)] 4=eJ (ints u):=by simp [bF]
   simp only [go_sem,h1,uQ ui,eL,aQ,forall_eq,cn,ah,kV]
   refine ⟨by omega,?_⟩
   rw [fL]
   unfold N3
   rw [Cj,u_ (by simp),u9 (by simp),kV]
   refine ⟨_,?_,by simp,?_,by simp [go_sem],rfl,rfl⟩
   ·simp [ig]
   ·simp [go_sem,dF,ct,r6]
    rw [Ta];exact dp _
  | false =>
   simp only [go_sem,h1]
   rw [fL]
   exact ⟨_,fx _,by simp,jY,by simp [go_sem],rfl,rfl⟩
 ·simp only [go_sem,h1]
  rw [fL]
  exact ⟨_,fx _,by simp,jY,by simp [go_sem],rfl,rfl⟩
def dM (S:List Li→List Li×Int×Bool×Int):Nat→List Li→List Int→List Li×List Int×Int
 | 0,_,_=>([],[],9)
 | n+1,c,u=>if (S c).2.2.2≠0 then ([],[],(S c).2.2.2) else if (S c).2.2.1=false then (c,u,0) else if 200<u.length+1 then ([],[],9) else dM S n (S c).1 (u++[(S c).2.1])
theorem TQ (S:List Li→List Li×Int×Bool×Int):∀ n c u,u.length≤200→(dM S n c u).2.1.length≤200
 | 0,_,_,_=>av _
 | n+1,c,u,hu=>by
  rw [dM]
  split
  ·exact av _
  split
  ·exact hu
  split
  ·exact av _
  ·exact TQ S n _ _ (by rw [ay];simp only [au,aR];omega)
def fQ (w:Int) (S:List Li→List Li×Int×Bool×Int) (c:List Li):List Li×List Int×Int:=if w≠0 then ([],[],w) else dM S 201 c []
theorem XY (g:List Sy) (es:List (List Li)) (us:List Un) (c:List Li) (w:Int) (S:List Li→List Li×Int×Bool×Int) (I:List Li→Prop)
  (hW:aJ Tryz.prog 106 [.ps 4 (syms g), .ps 1 (cP es), .ps 5 (lits c)] (.int .i64 w))
  (hU:w=0→aJ Tryz.prog 107 [.ps 1 (cP es)] (.ps 5 (jb us)))
  (hI:w=0→I c) (hII:∀ d,I d→(S d).2.2.2=0→(S d).2.2.1=true→I (S d).1)
  (hS:∀ d,I d→aJ Tryz.prog 109 [.ps 4 (syms g), .ps 5 (jb us), .ps 5 (lits d)] (.dy [.ps 5 (lits (S d).1), .int .i64 (S d).2.1, .bool (S d).2.2.1, .int .i64 (S d).2.2.2])) :
  aJ Tryz.prog 68 [.ps 4 (syms g), .ps 1 (cP es), .ps 5 (lits c)] (.dy [.ps 5 (lits (fQ w S c).1), .ps 1 (ints (fQ w S c).2.1), .int .i64 (fQ w S c).2.2]):=by
 refine aJ.begin (rs:=[.tmp 6, .tmp 7, .tmp 8]) (m:=40) 1000 Tryz.func68 rfl rfl rfl (by decide) ⟨ct _,dp _,trivial,trivial⟩ ?_
 simp only [go_sem]
 refine aq.bU [] hW (cH _ _ _) ⟨dF _,eZ _,ct _,trivial⟩ ?_
 simp only [bL,bZ,bX,if_true]
 refine aK.go 1000 ?_
 by_cases h0:w=0
 ·subst h0
  have hF:fQ 0 S c=dM S 201 c []:=by simp [fQ]
  rw [hF]
  obtain ⟨Z,hZ⟩:∃ Z,dM S 201 c []=Z:=⟨_,rfl⟩
  rw [hZ]
  simp only [go_sem]
  refine aq.bU [] (hU rfl) (cH _ _ _) ⟨eZ _,trivial⟩ ?_
  rw [jd];simp only [ite_self]
  refine aK.go 1000 ?_
  simp only [go_sem]
  have jY:∀ (d:List Li) (u:List Int),bt 5 (w_ g us d u):=fun d u=>by
   unfold w_
   simp [go_sem,dF,ct,r6,dp]
  refine aK.gS (ι:={q:List Li×List Int // I q.1∧q.2.length≤200∧dM S (201 - q.2.length) q.1 q.2=Z}) 1000
   (fun _=>fD 43 [(5, .ptr 1 0),(6, .aU),(7, .aU),(8, .int .i64 0),(10, .ptr 2 0),(12, .fn 108 [] [.ptr 0 0, .ptr 3 0, .ptr 1 0, .ptr 2 0])])
   (fun q=>w_ g us q.1.1 q.1.2) (fun q=>201 - q.1.2.length) ⟨(c,[]),hI rfl,by simp,hZ⟩ [] ?_ (fun _=>by simp [w_]) ?_
  ·refine iF rfl ?_
   unfold w_
   simp only [go_sem,Fq,tK,td,dF,ct,r6,cz (dF _),cz (ct _),cz (r6 _)]
  ·rintro ⟨⟨d,u⟩,qO,hu,hn⟩
   simp only at qO hu hn
   have xw:=Yo4 g us d u (S d) (by omega) (hS d qO)
   have Nj : 201 - u.length=(200 - u.length)+1:=by omega
   rw [Nj,dM] at hn
   obtain ⟨z,hz⟩:∃ z,S d=z:=⟨_,rfl⟩
   have fh:=hII d qO
   rw [hz] at hn xw fh
   simp only [go_sem]
   refine xw.mono ?_
   rintro r σ' ⟨rfl,rfl⟩
   by_cases h1:z.2.2.2=0
   ·cases h2:z.2.2.1 with
    | true =>
     rw [if_neg (by simp [h1]),if_neg (by simp [h2])] at hn
     rw [if_pos ⟨h1,rfl⟩]
     unfold N3
     rw [Cj,u_ (by simp),u9 (by simp),kV,h1]
     refine aK.go 1000 ?_
     simp only [go_sem]
     by_cases h3 : 200<((u.length+1:Nat):Int)
     ·simp only [go_sem,h3]
      rw [if_pos (by omega)] at hn
      subst hn
      refine aK.go 1000 ?_
      simp only [go_sem]
      exact ⟨rfl,rfl⟩
     ·simp only [go_sem,h3]
      rw [if_neg (by omega)] at hn
      have wb:(u++[z.2.1]).length=u.length+1:=by simp
      refine ⟨⟨(z.1,u++[z.2.1]),fh h1 h2,by rw [wb];omega,by rw [wb,show 201 - (u.length+1)=200 - u.length by omega];exact hn⟩,[(4,6),(6,4)],iF rfl ?_,by simp only [wb];omega⟩
      unfold w_
      have lw:bx 0 (ints (u++[z.2.1])):=dp _
      rw [Cj] at lw
      simp only
      rw [Cj,u_ (by simp),u9 (by simp),kV]
      simp only [go_sem,dF,ct,r6,cz (dF _),cz (ct _),cz (r6 _),cz lw,ie (av _) lw]
    | false =>
     rw [if_neg (by simp [h1]),if_pos h2] at hn
     rw [if_neg (by simp),h1]
     subst hn
     unfold w_
     refine aK.go 1000 ?_
     simp only [go_sem]
     refine aK.draw [] 5 5 mixed rfl rfl (by decide) ?_
     simp only [go_sem,dA]
     refine aK.go 1000 ?_
     simp only [go_sem]
     refine aK.go 1000 ?_
     simp only [go_sem,rN]
   ·rw [if_pos h1] at hn
    rw [if_neg (by simp [h1])]
    subst hn
    unfold w_
    refine aK.go 1000 ?_
    simp only [go_sem,h1]
    refine aK.go 1000 ?_
    simp only [go_sem,h1]
    exact ⟨rfl,rfl⟩
 ·have hF:fQ w S c=([],[],w):=by simp [fQ,h0]
  rw [hF]
  simp only [go_sem,h0]
  exact ⟨rfl,rfl⟩
end Go.Proofs
namespace Go.Proofs
open Go Go.cV
theorem Ft {P:Tm→Prop} (hP:∀ t,P t→∀ u∈t.args,P u):∀ (p:List Int) (t v:Tm),P t→t.po p=some v→P v
 | [],t,v,h,e=>by rw [Tm.po] at e;cases e;exact h
 | n :: p,t,v,h,e=>by
  rw [Tm.po] at e
  split at e
  ·cases e
  split at e
  ·rename_i h2
   exact Ft hP p _ v (hP t h _ (aF h2)) e
  ·cases e
theorem Yqz {P:Tm→Prop} (hP:∀ t,P t→∀ u∈t.args,P u):∀ (s:List (Tm×Tm)) (m m':List Bd),gV s m=some m'→(∀ x∈s,P x.2)→(∀ b∈m,P b.t)→∀ b∈m',P b.t:=by
 intro s m
 induction s,m using gV.induct with
 | case1 m =>
  intro m' h h1 h2
  rw [gV] at h
  cases h
  exact h2
 | case2 x r m hv c hf he ih =>
  intro m' h h1 h2
  rw [gV,if_pos hv,hf] at h
  simp only [if_pos he] at h
  exact ih m' h (fun y hy=>h1 y (by simp [hy])) h2
 | case3 x r m hv c hf he =>
  intro m' h
  rw [gV,if_pos hv,hf] at h
  simp only [if_neg he] at h
  cases h
 | case4 x r m hv hf ih =>
  intro m' h h1 h2
  rw [gV,if_pos hv,hf] at h
  simp only at h
  refine ih m' h (fun y hy=>h1 y (by simp [hy])) (fun b hb=>?_)
  rcases aX.1 hb with hb | hb
  ·exact h2 b hb
  ·rw [aQ.1 hb];exact h1 x (by simp)
 | case5 x r m hv hc =>
  intro m' h
  rw [gV,if_neg hv,if_pos hc] at h
  cases h
 | case6 x r m hv hc ih =>
  intro m' h h1 h2
  rw [gV,if_neg hv,if_neg hc] at h
  refine ih m' h (fun y hy=>?_) h2
  rcases aX.1 hy with hy | hy
  ·have hy:=cX.1 hy
   exact hP x.2 (h1 x (by simp)) _ (c_ hy).2
  ·exact h1 y (by simp [hy])
theorem W9 {P:Tm→Prop} {m:List Bd} (h:∀ b∈m,P b.t) (ks:List Int):∀ b∈iV m ks,P b.t:=fun b hb=>by
 unfold iV at hb
 obtain ⟨v,_,hv⟩:=List.mem_filterMap.1 hb
 cases hf:m.find? (fun c=>c.v==v) with
 | none=>rw [hf] at hv;cases hv
 | some c =>
  rw [hf] at hv
  simp only at hv
  split at hv
  ·cases hv
  ·cases hv;exact h c (bQ hf)
theorem XW (m:List Bd) (ks:List Int):(iV m ks).length≤ks.length:=List.length_filterMap_le _ _
theorem TG {P:Tm→Prop} (hP:∀ t,P t→∀ u∈t.args,P u) {a b:Tm} (hb:P b):∀ x∈(gG [a] [b]).1,P x.t:=by
 unfold gG
 split
 ·intro x hx;cases hx
 ·split
  ·intro x hx;cases hx
  ·rename_i m hm
   exact W9 (Yqz hP _ _ _ hm (fun x hx=>by
    simp only [iy,List.zip_nil_right,nO,lC,bf,aQ] at hx
    subst hx;exact hb) (fun b hb=>by cases hb)) _
def DJ (t:Tm):Prop:=t.fit∧t.size≤400
theorem H7:∀ t,DJ t→∀ u∈t.args,DJ u:=fun t h u hu=>by
 have h1:=tb hu
 have h2:=oA t
 exact ⟨wJ (xm h.1) u hu,by have:=h.2;omega⟩
theorem Xw (g:List Sy):∀ t,jr g t→∀ u∈t.args,jr g u:=fun t h u hu=>K_ h hu
theorem Yr8:∀ (s:List (Tm×Tm)) (m m':List Bd),gV s m=some m'→m'.length≤m.length+lq s:=by
 intro s m
 induction s,m using gV.induct with
 | case1 m =>
  intro m' h
  rw [gV] at h
  cases h;omega
 | case2 x r m hv c hf he ih =>
  intro m' h
  rw [gV,if_pos hv,hf] at h
  simp only [if_pos he] at h
  have:=ih m' h
  simp only [lq];omega
 | case3 x r m hv c hf he =>
  intro m' h
  rw [gV,if_pos hv,hf] at h
  simp only [if_neg he] at h
  cases h
 | case4 x r m hv hf ih =>
  intro m' h
  rw [gV,if_pos hv,hf] at h
  simp only at h
  have:=ih m' h
  have hp:=zM x.1
  simp only [lq,ay,au,aR] at this ⊢;omega
 | case5 x r m hv hc =>
  intro m' h
  rw [gV,if_neg hv,if_pos hc] at h
  cases h
 | case6 x r m hv hc ih =>
  intro m' h
  rw [gV,if_neg hv,if_neg hc] at h
  have:=ih m' h
  have h2:=Fa x.1 x.2 r
  simp only [lq];omega
theorem Yiq (a b:Tm):(gG [a] [b]).1.length≤a.size:=by
 unfold gG
 split
 ·exact av _
 ·split
  ·exact av _
  ·rename_i m hm
   have h1:=Yr8 _ _ _ hm
   have h2:=XW m (fW (m.map Bd.v))
   rw [DZ,ao] at h2
   simp only [iy,List.zip_nil_right,nO,lC,bf,lq,aR] at h1 ⊢
   omega
mutual
theorem OA {bs:List Bd} (hb:∀ b∈bs,b.t.fit):∀ t:Tm,t.fit→(t.sub bs).fit
 | .mk h ts,hf=>by
  rw [Tm.sub]
  split
  ·unfold p0
   cases hq:bs.find? (fun b=>b.v == -1 - (Tm.mk h ts).head) with
   | some b=>exact hb b (bQ hq)
   | none=>exact hf
  ·exact ⟨hf.1,TU hb ts hf.2⟩
theorem TU {bs:List Bd} (hb:∀ b∈bs,b.t.fit):∀ ts:List Tm,Tm.fits ts→Tm.fits (Tm.rX bs ts)
 | [],_=>trivial
 | t :: ts,hf=>⟨OA hb t hf.1,TU hb ts hf.2⟩
end
def mT (u:Un) (t:Tm):List Bd×Bool×Int:=gG [u.l] [t]
def aT (u:Un) (t:Tm):Tm×Int:=qe (mT u t).1 u.r
def kT (g:List Sy) (u:Un) (t:Tm):Int×Int:=(if eC g [t,(aT u t).1]=0 then dS g t (aT u t).1 else 0,eC g [t,(aT u t).1])
def qT (g:List Sy) (u:Un) (t:Tm) (c:List Li):Int×Int:=oL g [⟨false,t,(aT u t).1⟩] c
def j5 (g:List Sy) (c:List Li) (u:Un) (t:Tm):Tm×Bool:=n5 g u t (mT u t) (aT u t) (kT g u t) (qT g u t c)
def TT (g:List Sy) (c:List Li) (u:Un) (s:mG):Tm×Bool:=j5 g c u s.t
theorem Sh:gT.fit:=by unfold gT;exact ⟨by unfold n8;omega,trivial⟩
def jQ (g:List Sy) (t:Tm):Prop:=t.term g=0∧t.fit
theorem qc {g:List Sy} {t:Tm} (h:jQ g t):DJ t:=⟨h.2,(sE (ph h.1).1).1⟩
theorem IQ {g:List Sy} {t:Tm} (h:jQ g t):jr g t:=HZ h.1 h.2
theorem JI {g:List Sy} {u:Un} {t:Tm} (hr:jQ g u.r) (ht:DJ t):(aT u t).1.fit∧(aT u t).1.size≤160000:=by
 have hb:=TG H7 (a:=u.l) ht
 unfold aT qe
 split
 ·exact ⟨Sh,by unfold gT;simp [Tm.size,Tm.bG]⟩
 split
 ·have hg:=(sE (ph hr.1).1).2.2
  have h1:=(sE (ph hr.1).1).1
  have h2:=Ke (mT u t).1.reverse 400 (by omega) (fun b mY=>(hb b (cX.1 mY)).2) u.r hg
  refine ⟨OA (fun b mY=>(hb b (cX.1 mY)).1) u.r hr.2,?_⟩
  have h3:=aW 400 h1
  simp only at h2 ⊢;omega
 ·exact ⟨Sh,by unfold gT;simp [Tm.size,Tm.bG]⟩
theorem Xr {g:List Sy} {u:Un} {t:Tm} {m:List Bd×Bool×Int} {s:Tm×Int} {k q:Int×Int}:(n5 g u t m s k q).1=t∨(n5 g u t m s k q).1=s.1:=by
 unfold n5
 repeat' split
 all_goals simp
theorem Uo {g:List Sy} {c:List Li} {u:Un} {t:Tm} (hr:jQ g u.r) (ht:DJ t):(j5 g c u t).1.fit∧(j5 g c u t).1.size≤160000:=by
 unfold j5
 rcases Xr (g:=g) (u:=u) (t:=t) (m:=mT u t) (s:=aT u t) (k:=kT g u t) (q:=qT g u t c) with h | h
 ·rw [h];exact ⟨ht.1,by have:=ht.2;omega⟩
 ·rw [h];exact JI hr ht
theorem Yk9 (g:List Sy) (Dl:fV g=true) (u:Un) (t:Tm) (c:List Li) (hl:jQ g u.l) (hr:jQ g u.r) (ht:jr g t) (rG:DJ t) (Es:c≠[]) (gK:c.length≤400000) (hc:∀ l∈c,pK g l) :
  aJ Tryz.prog 141 [.ps 4 (syms g),u.aN,t.aN, .ps 5 (lits c)] (.dy [(j5 g c u t).1.aN, .bool (j5 g c u t).2]):=by
 obtain ⟨hg,lR⟩:=Ynv Dl
 have Aw:=qc hl
 have nH:=qc hr
 have hb:=TG H7 (a:=u.l) rG
 have ha:=JI hr rG (u:=u)
 refine YL g u t c (mT u t) (aT u t) (kT g u t) (qT g u t c) (Fb (IQ hl).2.1) (Fb ht.2.1) ?_ (fun _ _=>?_) (fun _ _ _=>?_) (fun _ _ _ _ _=>?_)
 ·exact Xa u.l t (by have:=Aw.2;omega) (by have:=rG.2;omega) Aw.1 rG.1
 ·have hlen:=Yiq u.l t
  refine X1 _ u.r (by have:=Aw.2;unfold mT;omega) (fun b h=>by have:=(hb b h).2;omega) (by have:=nH.2;omega) nH.1 ?_
  have ui:=(sE (ph hr.1).1).2.2
  have h2:=Ke (mT u t).1.reverse 400 (by omega) (fun b mY=>(hb b (cX.1 mY)).2) u.r ui
  have h3:=aW 400 nH.2
  omega
 ·refine Zus g hg (by omega) t (aT u t).1 (by have:=rG.2;omega) (by have:=ha.2;omega) (fun h=>⟨ht,?_⟩)
  refine HZ (g:=g) ?_ ha.1
  rw [eC] at h
  split at h
  ·rw [eC] at h
   split at h
   ·assumption
   ·rename_i h1 h2;exact absurd h h2
  ·rename_i h1;exact absurd h h1
 ·refine Ztn g hg (by omega) _ c (by simp) Es (by simp) (by omega) (fun x hx=>?_) hc
  rw [aQ.1 hx]
  exact Rg ⟨by have:=rG.2;simp only;omega,by have:=ha.2;simp only;omega⟩ ⟨rG.1,ha.1⟩
theorem P3 {i:Nat} {rt:Bool} {t:Tm} {s:mG} (h:s∈cU i rt t):s.i=i∧s.rt=rt∧t.po s.p=some s.t∧s.p.length<t.size:=by
 unfold cU at h
 obtain ⟨p,hp,rfl⟩:=bW.1 h
 obtain ⟨p',rfl,h1,v,h2,_⟩:=Ib t [] p hp
 refine ⟨rfl,rfl,?_,by simpa using h1⟩
 simp only [bf,h2,br]
theorem DS:∀ (c:List Li) (i:Nat) (s:mG),s∈cG c i→∃ (j:Nat) (h:j<c.length),s.i=((i+j:Nat):Int)∧((c[j]).side s.rt).po s.p=some s.t∧s.p.length<((c[j]).side s.rt).size
 | [],_,_,h=>by rw [cG] at h;cases h
 | l :: c,i,s,h=>by
  rw [cG] at h
  rcases aX.1 h with h | h
  ·refine ⟨0,by simp,?_⟩
   unfold kI at h
   rcases aX.1 h with h | h
   ·obtain ⟨h1,h2,h3,h4⟩:=P3 h
    simp only [eK,Li.side,h2]
    exact ⟨h1,by simpa using h3,by simpa using h4⟩
   ·obtain ⟨h1,h2,h3,h4⟩:=P3 h
    simp only [eK,Li.side,h2]
    exact ⟨h1,by simpa using h3,by simpa using h4⟩
  ·obtain ⟨j,hj,h1,h2,h3⟩:=DS c (i+1) s h
   exact ⟨j+1,by simpa using hj,by rw [h1];omega,by simpa using h2,by simpa using h3⟩
def kN (g:List Sy) (c:List Li):Prop:=a_ g c=0∧∀ l∈c,l.l.fit∧l.r.fit
theorem zG {g:List Sy} {c:List Li} (h:a_ g c=0):fV g=true∧c.length≤32∧∀ l∈c,l.check g=0:=by
 unfold a_ at h
 split at h
 ·cases h
 split at h
 ·cases h
 rename_i h1 h2
 refine ⟨by simpa using h1,by omega,?_⟩
 have key:∀ c:List Li,dC g c=0→∀ l∈c,l.check g=0:=by
  intro c
  induction c with
  | nil=>intro _ l hl;cases hl
  | cons a c ih =>
   intro h l hl
   rw [dC] at h
   split at h
   ·rename_i h3;exact absurd h h3
   ·rename_i h3
    rcases aP.1 hl with rfl | hl
    ·simpa using h3
    ·exact ih h l hl
 exact key c h
theorem uP {g:List Sy} {c:List Li} (h:kN g c) {l:Li} (hl:l∈c):jQ g l.l∧jQ g l.r:=by
 have h1:=A8 ((zG h.1).2.2 l hl)
 have h2:=h.2 l hl
 exact ⟨⟨h1.1,h2.1⟩,h1.2,h2.2⟩
theorem Fj {g:List Sy} {c:List Li} (h:kN g c) {l:Li} (hl:l∈c) (b:Bool):jQ g (l.side b):=by
 unfold Li.side;split
 ·exact (uP h hl).2
 ·exact (uP h hl).1
theorem Yk5 {g:List Sy} {c:List Li} (h:kN g c):∀ l∈c,pK g l:=fun l hl=>by
 obtain ⟨h1,h2⟩:=uP h hl
 have s1:=qc h1
 have s2:=qc h2
 exact Rg ⟨by have:=s1.2;omega,by have:=s2.2;omega⟩ ⟨s1.1,s2.1⟩
theorem T8 {u:Tm} (hu:u.fit):∀ (ts:List Tm) (i:Nat),Tm.fits ts→Tm.fits (ts.set i u)
 | [],_,h=>h
 | t :: ts,0,h=>⟨hu,h.2⟩
 | t :: ts,i+1,h=>⟨h.1,T8 hu ts i h.2⟩
theorem Rn (u:Tm):∀ (ts:List Tm) (i:Nat) (h:i<ts.length),Tm.bG (ts.set i u)+(ts[i]).size=Tm.bG ts+u.size
 | t :: ts,0,_=>by simp only [df,Tm.bG,eK];omega
 | t :: ts,i+1,h=>by simp only [cZ,Tm.bG,ix];have:=Rn u ts i (by simpa using h);omega
theorem Pd:∀ (p:List Int) (t u v:Tm),t.po p=some v→t.fit→u.fit→(t.k_ p u).fit∧(t.k_ p u).size+v.size=t.size+u.size
 | [],t,u,v,h,ht,hu=>by rw [Tm.po] at h;cases h;rw [Tm.k_];exact ⟨hu,by omega⟩
 | n :: p,t,u,v,h,ht,hu=>by
  rw [Tm.po] at h
  split at h
  ·cases h
  split at h
  ·rename_i h1 h2
   have hm:=aF h2
   have hg:t.args.getD n.toNat gT=t.args[n.toNat]:=by simp [List.getD,h2]
   obtain ⟨a1,a2⟩:=Pd p _ u v h (wJ (xm ht) _ hm) hu
   rw [Tm.k_,hg]
   refine ⟨⟨Fi ht,T8 a1 _ _ (xm ht)⟩,?_⟩
   have h3:=Rn ((t.args[n.toNat]).k_ p u) t.args n.toNat h2
   have h4:=oA t
   rw [Tm.size]
   omega
  ·cases h
theorem Yq9 {c:List Li} {i:Nat} {u:Un} (h:u∈rK c i):∃ l:Li,[l]=c∧((u.l=l.l∧u.r=l.r)∨(u.l=l.r∧u.r=l.l)):=by
 unfold rK at h
 split at h
 ·split at h
  ·cases h
  ·simp only [aP,dO,or_false] at h
   rcases h with rfl | rfl
   ·exact ⟨_,rfl, .inl ⟨rfl,rfl⟩⟩
   ·exact ⟨_,rfl, .inr ⟨rfl,rfl⟩⟩
 ·cases h
theorem TP {u:Un}:∀ (es:List (List Li)) (i:Nat),u∈j4 es i→∃ l:Li,[l]∈es∧((u.l=l.l∧u.r=l.r)∨(u.l=l.r∧u.r=l.l))
 | [],i,h=>by rw [j4] at h;cases h
 | c :: es,i,h=>by
  rw [j4] at h
  rcases aX.1 h with h | h
  ·obtain ⟨l,h1,h2⟩:=Yq9 h
   exact ⟨l,by simp [h1],h2⟩
  ·obtain ⟨l,h1,h2⟩:=TP es (i+1) h
   exact ⟨l,cq _ h1,h2⟩
theorem Zth {es:List (List Li)} {u:Un} (h:u∈cM es):∃ l:Li,[l]∈es∧((u.l=l.l∧u.r=l.r)∨(u.l=l.r∧u.r=l.l)):=by
 unfold cM at h
 exact TP es 0 (lZ.1 h).1
theorem UC:∀ (es:List (List Li)) (i:Nat),(j4 es i).length≤2*es.length
 | [],_=>by rw [j4];exact ah _
 | c :: es,i=>by
  rw [j4,ay]
  have:=Yp6 c i
  have:=UC es (i+1)
  simp only [au];omega
theorem Ztj (es:List (List Li)):(cM es).length≤2*es.length:=by
 have:=UC es 0
 have h2:(cM es).length≤(j4 es 0).length:=List.length_filter_le _ _
 omega
theorem B_ {g:List Sy}:∀ {l:List (List Li)},cB g l=0→∀ c∈l,a_ g c=0
 | [],_,c,hc=>by cases hc
 | a :: l,h,c,hc=>by
  rw [cB] at h
  split at h
  ·rename_i h1;exact absurd h h1
  ·rename_i h1
   rcases aP.1 hc with rfl | hc
   ·simpa using h1
   ·exact B_ h c hc
def pE (c:List Li):Prop:=∀ l∈c,l.l.fit∧l.r.fit
theorem Rh {g:List Sy} {es:List (List Li)} (hc:∀ c∈es,a_ g c=0) (hf:∀ c∈es,pE c) {u:Un} (h:u∈cM es):jQ g u.l∧jQ g u.r:=by
 obtain ⟨l,h1,h2⟩:=Zth h
 have h3:=uP (g:=g) (c:=[l]) ⟨hc _ h1,hf _ h1⟩ (aQ.2 rfl)
 rcases h2 with ⟨e1,e2⟩ | ⟨e1,e2⟩
 ·rw [e1,e2];exact h3
 ·rw [e1,e2];exact ⟨h3.2,h3.1⟩
theorem Yq0 {c:List Li} {s:mG} {i:Nat} (h:i<c.length) (hi:s.i=i) (u:Tm):kL c s u=c.set i (c[i].sW s.rt ((c[i].side s.rt).k_ s.p u)):=by
 have:s.i.toNat=i:=by omega
 unfold kL
 rw [this,aA h]
theorem Ux {g:List Sy} {c:List Li} (hc:kN g c) {s:mG} (hs:s∈cG c 0) {u:Tm} (hu:u.fit):pE (kL c s u)∧∀ l∈kL c s u,l.l.size≤400+u.size∧l.r.size≤400+u.size:=by
 obtain ⟨j,hj,h1,h2,h3⟩:=DS c 0 s hs
 rw [bm] at h1
 have hm:=aF hj
 have uv:=Fj hc hm s.rt
 obtain ⟨p1,p2⟩:=Pd s.p _ u s.t h2 uv.2 hu
 have hss:=(qc uv).2
 have nG:=zM s.t
 rw [Yq0 hj h1]
 have key:∀ l∈c.set j (c[j].sW s.rt ((c[j].side s.rt).k_ s.p u)),(l.l.fit∧l.r.fit)∧l.l.size≤400+u.size∧l.r.size≤400+u.size:=fun l hl=>by
  rcases List.mem_or_eq_of_mem_set hl with hl | rfl
  ·obtain ⟨a1,a2⟩:=uP hc hl
   have b1:=(qc a1).2
   have b2:=(qc a2).2
   exact ⟨⟨a1.2,a2.2⟩,by omega,by omega⟩
  ·obtain ⟨a1,a2⟩:=uP hc hm
   have b1:=(qc a1).2
   have b2:=(qc a2).2
   unfold Li.sW
   split
   ·exact ⟨⟨a1.2,p1⟩,by simp only;omega,by simp only;omega⟩
   ·exact ⟨⟨p1,a2.2⟩,by simp only;omega,by simp only;omega⟩
 exact ⟨fun l hl=>(key l hl).1,fun l hl=>(key l hl).2⟩
def de (g:List Sy) (us:List Un) (c:List Li):List Li×Int×Bool×Int:=kQ g (TT g c) us c
theorem Yl6 (g:List Sy) (us:List Un) (c:List Li) (wb:us.length<1000000) (hu:∀ u∈us,jQ g u.l∧jQ g u.r) (hc:kN g c) :
  aJ Tryz.prog 109 [.ps 4 (syms g), .ps 5 (jb us), .ps 5 (lits c)] (.dy [.ps 5 (lits (de g us c).1), .int .i64 (de g us c).2.1, .bool (de g us c).2.2.1, .int .i64 (de g us c).2.2.2]):=by
 obtain ⟨Dl,gK,_⟩:=zG hc.1
 have zu:∀ s∈cG c 0,jr g s.t∧DJ s.t∧c≠[]:=fun s hs=>by
  obtain ⟨j,hj,h1,h2,h3⟩:=DS c 0 s hs
  have uv:=Fj hc (aF hj) s.rt
  exact ⟨Ft (Xw g) _ _ _ (IQ uv) h2,Ft H7 _ _ _ (qc uv) h2,by rintro rfl;simp at hj⟩
 have NI:∀ u∈us, ∀ s∈cG c 0,(TT g c u s).1.fit∧(TT g c u s).1.size≤160000:=fun u uV s hs=>Uo (hu u uV).2 (zu s hs).2.1
 refine Yiv g us c (TT g c) wb (by omega) (fun l hl=>?_) (fun u uV s hs=>?_) (fun u uV s hs=>?_) (fun u uV s hs _=>?_)
 ·obtain ⟨a1,a2⟩:=uP hc hl
  exact ⟨(qc a1).2,(qc a2).2⟩
 ·obtain ⟨h1,h2,h3⟩:=zu s hs
  exact Yk9 g Dl u s.t c (hu u uV).1 (hu u uV).2 h1 h2 h3 (by omega) (Yk5 hc)
 ·obtain ⟨j,hj,h1,h2,h3⟩:=DS c 0 s hs
  have uv:=(qc (Fj hc (aF hj) s.rt)).2
  exact Ypt c s _ s.t j hj (by rw [h1];simp) h2 (by omega) (by omega) (by omega)
 ·obtain ⟨h1,h2⟩:=NI u uV s hs
  have h3:=(Ux hc hs h1).2
  exact E5 g _ (fun i hi=>by have:=h3 _ (aF hi);omega)
theorem J3 {T:Un→mG→Tm×Bool} {s:mG} {x:Un×Tm}:∀ {us:List Un},eN T s us=some x→x.1∈us∧x.2=(T x.1 s).1∧(T x.1 s).2=true
 | [],h=>by rw [eN] at h;cases h
 | u :: us,h=>by
  rw [eN] at h
  split at h
  ·rename_i h1;cases h;exact ⟨by simp,rfl,h1⟩
  ·obtain ⟨a1,a2⟩:=J3 h
   exact ⟨cq _ a1,a2⟩
theorem Um {g:List Sy} {us:List Un} {c:List Li} (hu:∀ u∈us,jQ g u.l∧jQ g u.r) (hc:kN g c) (h0:(de g us c).2.2.2=0):kN g (de g us c).1:=by
 unfold de kQ at h0 ⊢
 rcases EV (TT g c) us (cG c 0) with ⟨f1,_⟩ | ⟨k,hk,x,f1,f2,_⟩
 ·rw [f1];exact hc
 ·rw [f1] at h0 ⊢
  simp only at h0 ⊢
  split
  ·rename_i h1
   obtain ⟨m1,m2,_⟩:=J3 f2
   have hs:=aF hk
   obtain ⟨j,hj,g1,g2,g3⟩:=DS c 0 _ hs
   have sQ:=Ft H7 _ _ _ (qc (Fj hc (aF hj) _)) g2
   refine ⟨h1,?_⟩
   rw [m2]
   exact (Ux hc hs (Uo (c:=c) (hu _ m1).2 sQ).1).1
  ·rename_i h1
   rw [if_neg h1] at h0
   exact absurd h0 h1
end Go.Proofs
namespace Go.Proofs
open Go Go.cV
attribute [local go_sem] Nat.reduceAdd Nat.reduceSub Nat.reduceMul Nat.reduceLeDiff Nat.reduceEqDiff Nat.reduceBEq Nat.reduceLT Nat.le_refl Int.natCast_zero Nat.sub_zero List.length_map Int.toNat_natCast Int.natCast_one Int.reduceEq Int.reduceLT Int.reduceLE Int.reduceNe Int.sub_zero Int.zero_add Int.toNat_one
def wB (g:List Sy) (es:List (List Li)) (c:List Li):List Li×Int×Bool×Int:=if cB g (c :: es)≠0 then ([],0,false,cB g (c :: es)) else de g (cM es) c
def cx (g:List Sy) (es:List (List Li)) (c:List Li):List Li×List Int×Int:=fQ (cB g (c :: es)) (de g (cM es)) c
def rf (es:List (List Li)) (c:List Li):Prop:=es.length<400000∧∀ x∈c :: es,ow x∧pE x
theorem FI {g:List Sy} {es:List (List Li)} {c:List Li} (h:rf es c) (hw:cB g (c :: es)=0):kN g c∧(∀ u∈cM es,jQ g u.l∧jQ g u.r)∧∀ x∈es,Jm x:=by
 have hw:=B_ hw
 have h1:∀ x∈es,kN g x:=fun x hx=>⟨hw x (by simp [hx]),(h.2 x (by simp [hx])).2⟩
 refine ⟨⟨hw c (by simp),(h.2 c (by simp)).2⟩,fun u hu=>Rh (g:=g) (fun x hx=>(h1 x hx).1) (fun x hx=>(h1 x hx).2) hu,fun x hx l hl=>?_⟩
 obtain ⟨a1,a2⟩:=uP (h1 x hx) hl
 have b1:=qc a1
 have b2:=qc a2
 exact ⟨⟨b1.1,by have:=b1.2;omega⟩,b2.1,by have:=b2.2;omega⟩
theorem ZP (g:List Sy) (es:List (List Li)) (c:List Li) (h:rf es c) :
  aJ Tryz.prog 68 [.ps 4 (syms g), .ps 1 (cP es), .ps 5 (lits c)] (.dy [.ps 5 (lits (cx g es c).1), .ps 1 (ints (cx g es c).2.1), .int .i64 (cx g es c).2.2]):=by
 have hlen:=Ztj es
 exact XY g es (cM es) c (cB g (c :: es)) (de g (cM es)) (fun d=>cB g (c :: es)=0∧kN g d)
  (Yf g es c (fun x hx=>(h.2 x hx).1) (by have:=h.1;omega)) (fun h0=>Zv es (by have:=h.1;omega) (FI h h0).2.2) (fun h0=>⟨h0,(FI h h0).1⟩)
  (fun d hd e _=>⟨hd.1,Um (FI h hd.1).2.1 hd.2 e⟩) (fun d hd=>Yl6 g (cM es) d (by have:=h.1;omega) (FI h hd.1).2.1 hd.2)
theorem Ypk (n:Int) (hn : -1000000≤n∧n≤1000000):aJ Tryz.prog 42 [.int .i64 n] (Tm.mk (-1 - n) []).aN:=by
 refine aJ.begin (rs:=[.cell 2 70]) (m:=5) 1000 Tryz.func42 rfl rfl rfl (by decide) (dE _) ?_
 have hw:IntKind.i64.wrap (-1 - n) = -1 - n:=ep (by omega)
 simp only [go_sem,hw,dc]
 exact ⟨rfl,rfl⟩
theorem Iy (n:Int) (ts:List Tm):aJ Tryz.prog 43 [.int .i64 n, .ps 2 (ts.map Tm.aN)] (Tm.mk n ts).aN:=by
 refine aJ.begin (rs:=[.cell 4 70]) (m:=6) 1000 Tryz.func43 rfl rfl rfl (by decide) (dE _) ?_
 simp only [go_sem,dc]
 exact ⟨rfl,cH _ _ _⟩
def vN (a b:Int):Int:=if a<b then -1 else if b<a then 1 else 0
theorem LN {a b:Int} (h:a≠b):vN a b≠0:=by unfold vN;split<;>(try split)<;>omega
theorem Ku (a b:Int):aJ Tryz.prog 155 [.int .i64 a, .int .i64 b] (.int .i64 (vN a b)):=by
 refine aJ.begin (rs:=[.tmp 4]) (m:=9) 1000 Tryz.func155 rfl rfl rfl (by decide) trivial ?_
 unfold vN
 by_cases h1:a<b
 ·simp only [go_sem,h1]
 ·by_cases h2:b<a
  ·simp only [go_sem,h1,h2]
  ·simp only [go_sem,h1,h2]
mutual
def Tm.cmp:Tm→Tm→Int
 | .mk h ts,u=>if ((Tm.mk h ts).size:Int)≠u.size then vN (Tm.mk h ts).size u.size else if h≠u.head then vN h u.head else if (ts.length:Int)≠u.args.length then vN ts.length u.args.length else Tm.lN ts u.args
def Tm.lN:List Tm→List Tm→Int
 | [],_=>0
 | _ :: _,[]=>0
 | t :: ts,u :: us=>if t.cmp u≠0 then t.cmp u else Tm.lN ts us
end
mutual
theorem PA:∀ t u:Tm,t.cmp u=0↔t=u
 | .mk h ts, .mk k us=>by
  rw [Tm.cmp]
  by_cases h1:((Tm.mk h ts).size:Int)=(Tm.mk k us).size
  ·rw [if_neg (by simpa using h1)]
   by_cases h2:h=k
   ·subst h2
    rw [if_neg (by simp [Tm.head])]
    by_cases h3:(ts.length:Int)=us.length
    ·rw [if_neg (by simpa [Tm.args] using h3)]
     rw [show (Tm.mk h us).args=us from rfl,Om ts us (by omega)]
     simp
    ·rw [if_pos (by simpa [Tm.args] using h3)]
     refine ⟨fun e=>absurd e (LN (by simpa [Tm.args] using h3)),fun e=>?_⟩
     cases e;exact absurd rfl h3
   ·rw [if_pos (by simpa [Tm.head] using h2)]
    refine ⟨fun e=>absurd e (LN (by simpa [Tm.head] using h2)),fun e=>?_⟩
    cases e;exact absurd rfl h2
  ·rw [if_pos (by simpa using h1)]
   refine ⟨fun e=>absurd e (LN h1),fun e=>?_⟩
   rw [e] at h1;exact absurd rfl h1
theorem Om:∀ ts us:List Tm,ts.length=us.length→(Tm.lN ts us=0↔ts=us)
 | [],[],_=>by simp [Tm.lN]
 | t :: ts,u :: us,hl=>by
  rw [Tm.lN]
  have h1:=PA t u
  have h2:=Om ts us (by simpa using hl)
  by_cases h3:t.cmp u=0
  ·rw [if_neg (by simp [h3]),h2,h1.1 h3];simp
  ·rw [if_pos h3]
   refine ⟨fun e=>absurd e h3,fun e=>?_⟩
   cases e;exact absurd (h1.2 rfl) h3
end
theorem Zt7 (t:Tm):∀ u:Tm,t.size<2 ^ 62→u.size<2 ^ 62→aJ Tryz.prog 129 [t.aN,u.aN] (.int .i64 (t.cmp u)):=by
 induction t using Tm.kM with
 | h h ts ih =>
 intro u hs hu
 obtain ⟨k,us,rfl⟩:∃ k us,u=Tm.mk k us:=⟨u.head,u.args,by cases u;rfl⟩
 have fP:=Oc (Tm.mk h ts) hs
 have Ny:=Oc (Tm.mk k us) hu
 have bD:=qb ts
 have I_:=qb us
 have ft:(Tm.mk h ts).size=1+Tm.bG ts:=rfl
 have GQ:(Tm.mk k us).size=1+Tm.bG us:=rfl
 refine aJ.begin (rs:=[.tmp 4]) (m:=60) 1000 Tryz.func129 rfl rfl rfl (by decide) trivial ?_
 rw [Tm.cmp,show (Tm.mk k us).args=us from rfl,show (Tm.mk k us).head=k from rfl]
 generalize (Tm.mk h ts).size=n1 at *
 generalize (Tm.mk k us).size=n2 at *
 simp only [go_sem,fq,Tm.head,Tm.args]
 refine aK.draw [] 2 2 mixed rfl rfl (by decide) ?_
 simp only [go_sem,dA]
 refine nQ (fP) (by (try simp only [dc]);exact cH _ _ _) (by simp [go_sem,dE,bP]) ?_
 simp only [go_sem]
 refine nQ (Ny) (by (try simp only [dc]);exact cH _ _ _) (by simp [go_sem,dE,bP]) ?_
 simp only [go_sem]
 refine aK.go 1000 ?_
 by_cases c1:(n1:Int)=n2
 ·rw [if_neg (by simpa using c1)]
  by_cases c2:h=k
  ·rw [if_neg (fun e=>e c2)]
   by_cases c3:(ts.length:Int)=us.length
   ·rw [if_neg (fun e=>e c3)]
    obtain ⟨Z,hZ⟩:∃ Z,Tm.lN ts us=Z:=⟨_,rfl⟩
    rw [hZ]
    simp only [go_sem,c1,c2,c3,Tm.head,Tm.args]
    refine aK.c9 (ι:={i:Nat // i≤ts.length∧Tm.lN (ts.drop i) (us.drop i)=Z}) 1000 (fun q=>fD 62 [(2, .ptr 0 0),(3, .ptr 1 0),(4, .int .i64 0),(5, .int .i64 q.1)])
     (fun _=>[some (.var [.int .i64 h, .ps 2 (ts.map Tm.aN)]),some (.var [.int .i64 k, .ps 2 (us.map Tm.aN)])]) (fun q=>ts.length - q.1) ⟨0,by omega,by simpa using hZ⟩ ?_ (fun _=>by simp) ?_
    ·simp only [go_sem,bP,c2]
    ·rintro ⟨i,hi,aO⟩
     by_cases bD:(i:Int)<ts.length
     ·have aZ:i<ts.length:=by omega
      have De:i<us.length:=by omega
      have GC:(i:Int)<us.length:=by omega
      have hw:IntKind.i64.wrap ((i:Int)+1)=((i+1:Nat):Int):=by rw [ep (by omega)];omega
      have g1:(ts.map Tm.aN).getD i .undef=ts[i].aN:=nP aZ
      have g2:(us.map Tm.aN).getD i .undef=us[i].aN:=nP De
      have z1:=A5 ts i aZ
      have z2:=A5 us i De
      have hc:=ih i aZ us[i] (by omega) (by omega)
      rw [ak aZ,ak De,Tm.lN] at aO
      generalize ts[i]=x at *
      generalize us[i]=y at *
      simp only [go_sem,bD]
      refine aK.draw [] 2 2 mixed rfl rfl (by decide) ?_
      simp only [go_sem,dA,g1,g2,fq,bD,GC]
      (repeat ((with_reducible refine And.intro ?_ ?_); ·omega))
      refine nQ (hc) (by (try simp only [dc]);exact cH _ _ _) (by simp [go_sem,dE,bP]) ?_
      simp only [go_sem]
      refine aK.go 1000 ?_
      by_cases c4:x.cmp y=0
      ·rw [if_neg (by simp [c4])] at aO
       simp only [go_sem,c4,hw]
       refine ⟨⟨i+1,by omega,aO⟩,?_,by simp only;omega⟩
       simp only [go_sem,bP]
      ·rw [if_pos c4] at aO
       simp only [go_sem,c4]
       refine aK.go 1000 ?_
       simp only [go_sem,aO]
     ·have dR:i=ts.length:=by omega
      subst dR
      rw [aV,Tm.lN] at aO
      simp only [go_sem,bD]
      refine aK.go 1000 ?_
      simp only [go_sem,aO]
   ·rw [if_pos c3]
    simp only [go_sem,c1,c2,c3,Tm.head,Tm.args]
    refine aq.bU [] (Ku ts.length us.length) (by (try simp only [dc]);exact cH _ _ _) (by simp [go_sem,dE,bP]) ?_;simp only [bL,bZ,bX,if_true];refine aK.go 1000 ?_
    simp only [go_sem]
  ·rw [if_pos c2]
   simp only [go_sem,c1,c2,Tm.head,Tm.args]
   refine aq.bU [] (Ku h k) (by (try simp only [dc]);exact cH _ _ _) (by simp [go_sem,dE,bP]) ?_;simp only [bL,bZ,bX,if_true];refine aK.go 1000 ?_
   simp only [go_sem]
 ·rw [if_pos c1]
  simp only [go_sem,c1]
  refine aK.draw [] 2 2 mixed rfl rfl (by decide) ?_
  simp only [go_sem,dA]
  refine nQ (fP) (by (try simp only [dc]);exact cH _ _ _) (by simp [go_sem,dE,bP]) ?_
  simp only [go_sem]
  refine nQ (Ny) (by (try simp only [dc]);exact cH _ _ _) (by simp [go_sem,dE,bP]) ?_
  simp only [go_sem]
  refine nQ (Ku n1 n2) (by (try simp only [dc]);exact cH _ _ _) (by simp [go_sem,dE,bP]) ?_
  simp only [go_sem]
  refine aK.go 1000 ?_
  simp only [go_sem]
theorem TY (t u:Tm) (ht:t.size<2 ^ 62) (hu:u.size<2 ^ 62):aJ Tryz.prog 88 [t.aN,u.aN] (.bool (decide (t=u))):=by
 have hc:=Zt7 t u ht hu
 have he:=PA t u
 refine aJ.begin (rs:=[.tmp 4]) (m:=7) 1000 Tryz.func88 rfl rfl rfl (by decide) trivial ?_
 simp only [go_sem,fq]
 refine aq.bU [] (hc) (by (try simp only [dc]);exact cH _ _ _) (by simp [go_sem,dE,bP]) ?_;simp only [bL,bZ,bX,if_true];refine aK.go 1000 ?_
 by_cases h:t=u
 ·subst h
  simp only [go_sem,he.2 rfl,decide_true]
 ·simp only [go_sem,show ¬ t.cmp u=0 from fun e=>h (he.1 e),h,decide_false]
def Li.CG (a b:Li):Bool:=decide (a.neg=b.neg)&&(decide (a.l=b.l)&&decide (a.r=b.r))
theorem Yte {a b:Li}:a.CG b=true↔a=b:=by
 cases a;cases b;simp [Li.CG]
theorem Zyj (a b:Li) (ha:a.l.size<2 ^ 62∧a.r.size<2 ^ 62) (hb:b.l.size<2 ^ 62∧b.r.size<2 ^ 62):aJ Tryz.prog 53 [a.aN,b.aN] (.bool (a.CG b)):=by
 have h1:=TY a.l b.l ha.1 hb.1
 have h2:=TY a.r b.r ha.2 hb.2
 refine aJ.begin (rs:=[.tmp 4]) (m:=22) 1000 Tryz.func53 rfl rfl rfl (by decide) trivial ?_
 unfold Li.CG
 simp only [go_sem,ku]
 by_cases c1:a.neg=b.neg
 ·have LY:(a.neg==b.neg)=true:=by simp [c1]
  simp only [go_sem,LY,c1,decide_true,cu]
  refine aq.bU [] (h1) (by (try simp only [dc]);exact cH _ _ _) (by simp [go_sem,dE,bP]) ?_;simp only [bL,bZ,bX,if_true];refine aK.go 1000 ?_
  by_cases c2:a.l=b.l
  ·simp only [go_sem,c2,decide_true,cu]
   refine aq.bU [] (h2) (by (try simp only [dc]);exact cH _ _ _) (by simp [go_sem,dE,bP]) ?_;simp only [bL,bZ,bX,if_true];refine aK.go 1000 ?_
   simp only [go_sem]
  ·simp only [go_sem,c2,decide_false,db]
 ·have LY:(a.neg==b.neg)=false:=by simp [c1]
  simp only [go_sem,LY,c1,decide_false,db]
def pA:List Li→List Li→Bool
 | [],[]=>true
 | a :: c,b :: d=>a.CG b&&pA c d
 | _,_=>false
theorem Ii:∀ c d:List Li,pA c d=true↔c=d
 | [],[]=>by simp [pA]
 | [],_ :: _=>by simp [pA]
 | _ :: _,[]=>by simp [pA]
 | a :: c,b :: d=>by simp [pA,Yte,Ii c d]
def yU (c:List Li):Prop:=∀ l∈c,l.l.size<2 ^ 62∧l.r.size<2 ^ 62
theorem Xg {a b:List Li} (h:a.length=b.length) {i:Nat} (h1:i<a.length) (h2:i<b.length):pA (a.drop i) (b.drop i)=(a[i].CG b[i]&&pA (a.drop (i+1)) (b.drop (i+1))):=by
 rw [ak h1,ak h2,pA]
theorem Qz (a b:List Li) (ha:yU a) (hb:yU b) (hl:a.length<2 ^ 62):aJ Tryz.prog 19 [.ps 5 (lits a), .ps 5 (lits b)] (.bool (pA a b)):=by
 refine aJ.begin (rs:=[.tmp 4]) (m:=25) 1000 Tryz.func19 rfl rfl rfl (by decide) trivial ?_
 obtain ⟨Z,hZ⟩:∃ Z,pA a b=Z:=⟨_,rfl⟩
 rw [hZ]
 by_cases c1:(a.length:Int)=b.length
 ·simp only [go_sem,fO,c1]
  refine aK.c9 (ι:={i:Nat // i≤a.length∧pA (a.drop i) (b.drop i)=Z}) 1000 (fun q=>fD 27 [(0, .ps 5 (lits a)),(1, .ps 5 (lits b)),(4, .bool false),(5, .int .i64 q.1)])
   (fun _=>[]) (fun q=>a.length - q.1) ⟨0,by simpa using hZ⟩ ?_ (fun _=>av _) ?_
  ·simp only [go_sem,ct]
  ·rintro ⟨i,hi,aO⟩
   by_cases bD:(i:Int)<a.length
   ·have aZ:i<a.length:=by omega
    have Dd:i<b.length:=by omega
    have Gz:(i:Int)<b.length:=by omega
    have hw:IntKind.i64.wrap ((i:Int)+1)=((i+1:Nat):Int):=by rw [ep (by omega)];omega
    have g1:=tG aZ
    have g2:=tG Dd
    have hc:=Zyj a[i] b[i] (ha _ (aF aZ)) (hb _ (aF Dd))
    rw [Xg (by omega) aZ Dd] at aO
    generalize a[i]=x at *
    generalize b[i]=y at *
    simp only [go_sem,fO,bD]
    refine aK.draw [] 0 0 mixed rfl rfl (by decide) ?_
    simp only [go_sem,dA,g1,g2,ku,bD,Gz,fO]
    (repeat ((with_reducible refine And.intro ?_ ?_); ·omega))
    refine nQ hc (cH _ _ _) ⟨mQ _,mQ _,trivial⟩ ?_
    simp only [go_sem]
    refine aK.go 1000 ?_
    cases c4:x.CG y with
    | true =>
     rw [c4,cu] at aO
     simp only [go_sem,hw]
     refine ⟨⟨i+1,by omega,aO⟩,?_,by simp only;omega⟩
     simp only [go_sem,ct]
    | false =>
     rw [c4,db] at aO
     simp only [go_sem]
     refine aK.go 1000 ?_
     simp only [go_sem,aO]
   ·have dR:i=a.length:=by omega
    subst dR
    have:b.drop a.length=[]:=fJ (by omega)
    rw [aV,this,pA] at aO
    subst aO
    simp only [go_sem,fO,bD]
    refine aK.go 1000 ?_
    simp only [go_sem]
 ·have:Z=false:=by
   rw [← hZ,← dj,Ii]
   rintro rfl;exact c1 rfl
  rw [this]
  simp only [go_sem,fO,c1]
def oh (m:Int):List Tm→Int→Int
 | [],n=>n
 | t :: ts,n=>if n≤m then oh m ts (n+t.r7 m) else n
theorem Q7 {m:Int} (hm : 0≤m):∀ (ts:List Tm) (n:Int),0≤n→n≤2*m+1→0≤oh m ts n∧(oh m ts n≤m→oh m ts n=n+Tm.bG ts)
 | [],n,h,_=>⟨by simp [oh,h],fun _=>by simp [oh,Tm.bG]⟩
 | t :: ts,n,h,h2=>by
  have hb:=Cd t m hm
  simp only [oh]
  split
  ·obtain ⟨h3,h4⟩:=Q7 hm ts (n+t.r7 m) (by omega) (by omega)
   refine ⟨h3,fun h5=>?_⟩
   have h6:=h4 h5
   have h7:=Kx t m hm (by
    have:(0:Int)≤Tm.bG ts:=by omega
    omega)
   simp only [Tm.bG];omega
  ·exact ⟨h,fun h5=>by omega⟩
def pC (c:List Li):Bool:=decide (oh 80 (cT c) 0≤80)&&decide (c.length≤8)
theorem SL (c:List Li) (hc:c.length≤2600000000000):aJ Tryz.prog 23 [.ps 5 (lits c)] (.bool (pC c)):=by
 refine aJ.begin (rs:=[.tmp 2]) (m:=31) 1000 Tryz.func23 rfl rfl rfl (by decide) trivial ?_
 simp only [go_sem]
 refine aq.bU [] (QR c hc) (cH _ _ _) ⟨ct _,trivial⟩ ?_
 rw [jd];simp only [ite_self]
 refine aK.go 1000 ?_
 have yu:=E7 c
 have hF:pC c=(decide (oh 80 (cT c) 0≤80)&&decide (c.length≤8)):=rfl
 rw [hF]
 generalize cT c=ts at *
 simp only [go_sem]
 refine aK.c9 (ι:={p:Nat×Int // p.1≤ts.length∧0≤p.2∧p.2≤161∧oh 80 (ts.drop p.1) p.2=oh 80 ts 0}) 1000 (fun p=>fD 32 [(0, .ps 5 (lits c)),(2, .bool false),(3, .int .i64 p.1.2),(4, .ps 2 (ts.map Tm.aN)),(5, .int .i64 p.1.1)]) (fun _=>[]) (fun p=>ts.length - p.1.1) ⟨(0,0),by simp⟩ ?_ (fun _=>av _) ?_
 ·simp only [go_sem,bP,ct]
 ·rintro ⟨⟨i,n⟩,hi,h1,h2,h3⟩
  simp only at hi h1 h2 h3
  by_cases bD:(i:Int)<ts.length
  ·have aZ:i<ts.length:=by omega
   by_cases hn:n≤80
   ·simp only [go_sem,ao,bD,hn,nP aZ,fq]
    refine ⟨by omega,?_⟩
    refine aq.bU [] (Uv ts[i] 80 (by omega) (by omega)) (by (try simp only [dc]);exact cH _ _ _) (by simp [go_sem,dE,bP]) ?_;simp only [bL,bZ,bX,if_true];refine aK.go 1000 ?_
    simp only [go_sem]
    have hb:=Cd ts[i] 80 (by omega)
    refine ⟨⟨(i+1,n+ts[i].r7 80),aZ,by simp only;omega,by simp only;omega,?_⟩,?_,by simp only;omega⟩
    ·simp only
     rw [← h3,ak aZ,oh,if_pos hn]
    ·simp only [go_sem,bP,ct]
     rw [ep (by omega),ep (by omega)]
     simp
   ·simp only [go_sem,ao,bD,hn]
    refine aK.go 1000 ?_
    have:oh 80 (ts.drop i) n=n:=by cases ts.drop i<;>simp [oh,hn]
    rw [← h3,this]
    simp only [go_sem,hn,decide_false,db]
  ·simp only [go_sem,ao,bD]
   refine aK.go 1000 ?_
   have:i=ts.length:=by omega
   subst this
   rw [← h3,aV,oh]
   by_cases hn:n≤80
   ·simp only [go_sem,hn,decide_true,cu,fO]
    congr 1
    simp;omega
   ·simp only [go_sem,hn,decide_false,db]
def km:List (List Li)→Int→Bool×Int
 | [],n=>(true,n)
 | c :: es,n=>if iI c then km es (n+c.length) else (false,n)
def oN (es:List (List Li)):Bool:=decide (es.length≤8)&&((km es 0).1&&decide ((km es 0).2≤40))
theorem Xz (es:List (List Li)):aJ Tryz.prog 25 [.ps 1 (cP es)] (.bool (oN es)):=by
 refine aJ.begin (rs:=[.tmp 2]) (m:=35) 1000 Tryz.func25 rfl rfl rfl (by decide) trivial ?_
 simp only [go_sem]
 by_cases h8:(es.length:Int)≤8
 ·have h8':es.length≤8:=by omega
  refine aK.c9 (ι:={p:Nat×Int // p.1≤es.length∧0≤p.2∧p.2≤40*p.1∧km (es.drop p.1) p.2=km es 0}) 1000 (fun p=>fD 36 [(0, .ps 1 (cP es)),(2, .bool false),(3, .int .i64 p.1.2),(4, .int .i64 p.1.1)]) (fun _=>[]) (fun p=>es.length - p.1.1) ⟨(0,0),by simp⟩ ?_ (fun _=>av _) ?_
  ·simp only [go_sem,eZ]
  ·rintro ⟨⟨i,n⟩,hi,h1,h2,h3⟩
   simp only at hi h1 h2 h3
   by_cases bD:(i:Int)<es.length
   ·have aZ:i<es.length:=by omega
    have hw:IntKind.i64.wrap ((i:Int)+1)=((i+1:Nat):Int):=by rw [ep (by omega)];omega
    have g1:=y_ aZ
    rw [ak aZ,km] at h3
    generalize es[i]=c at *
    simp only [go_sem,mr,bD,h8,g1]
    refine ⟨by omega,?_⟩
    refine aq.bU [] (QT c) (cH _ _ _) (by simp [go_sem,ct]) ?_;simp only [bL,bZ,bX,if_true];refine aK.go 1000 ?_
    cases hf:iI c with
    | true =>
     rw [hf,if_pos rfl] at h3
     have gK:c.length≤40:=by
      unfold iI at hf
      simp only [aD,decide_eq_true_eq] at hf
      exact hf.1
     simp only [go_sem,g1,fO,mr,bD,h8]
     (repeat ((with_reducible refine And.intro ?_ ?_); ·omega))
     refine ⟨⟨(i+1,n+c.length),aZ,by simp only;omega,by simp only;omega,h3⟩,?_,by simp only;omega⟩
     simp only [go_sem,eZ,hw]
     rw [ep (by omega)]
    | false =>
     rw [hf,if_neg (by simp)] at h3
     have hF:oN es=false:=by unfold oN;rw [← h3];simp
     simp only [go_sem]
     refine aK.go 1000 ?_
     simp only [go_sem,hF]
   ·simp only [go_sem,mr,bD]
    refine aK.go 1000 ?_
    have:i=es.length:=by omega
    subst this
    rw [aV,km] at h3
    unfold oN
    rw [← h3]
    simp only [go_sem,mr,h8,h8',decide_true,cu]
 ·refine aK.c9 (ι:=Unit) 1000 (fun p=>fD 36 [(0, .ps 1 (cP es)),(2, .bool false),(3, .int .i64 0),(4, .int .i64 0)]) (fun _=>[]) (fun p=>0) () ?_ (fun _=>av _) ?_
  ·simp only [go_sem,eZ]
  ·rintro ⟨⟩
   have bD:(0:Int)<es.length:=by omega
   have hF:oN es=false:=by
    unfold oN
    rw [show decide (es.length≤8)=false from by simp;omega]
    rfl
   simp only [go_sem,mr,bD,h8]
   refine aK.go 1000 ?_
   simp only [go_sem,mr,h8,hF]
def rY:List Sy:=[⟨⟨#[36,116,114,117,101]⟩,0,1,true⟩,⟨⟨#[97]⟩,0,1,false⟩,⟨⟨#[102]⟩,1,1,false⟩,⟨⟨#[112]⟩,1,1,true⟩]
def gN:Tm:=.mk (-1) []
def ij:Tm:=.mk 1 []
def nN:List (List Li):=[[⟨false, .mk 2 [gN],gN⟩]]
def im (t:Tm):List Li:=[⟨false, .mk 3 [t], .mk 0 []⟩]
def il (t:Tm):Tm:=.mk 2 [t]
theorem Yk8 (t:Tm):(il t).aN = .agg [.int .i64 2, .ps 2 [.agg [.int .i64 t.head, .ps 2 (t.args.map Tm.aN)]]]:=by
 rw [il,dc,← dc t];rfl
theorem y6 (t:Tm):bL (il t).aN=false:=by rw [Yk8];rfl
theorem FD (t:Tm):aJ Tryz.prog 43 [.int .i64 2, .ps 2 [t.aN]] (il t).aN:=Iy 2 [t]
@[go_sem] theorem Yw5 (t:Tm):(cL t.aN=true)=True:=eq_true (by rw [dc];rfl)
theorem Oh (l:Li) (h1:l.l.size<1000∧l.r.size<1000) (h2:l.l.fit∧l.r.fit):ow [l]∧pE [l]:=by
 refine ⟨fun i h=>?_,fun x hx=>?_⟩
 ·have:i=0:=by simpa using h
  subst this
  simp only [eK];omega
 ·rw [aQ.1 hx];exact h2
theorem FC:gN.fit∧ij.fit∧(il gN).fit∧(il (il ij)).fit∧∀ t:Tm,t.fit→(Tm.mk 3 [t]).fit:=by
 refine ⟨?_,?_,?_,?_,fun t h=>?_⟩<;>simp [gN,ij,il,Tm.fit,Tm.fits,n8]
 exact h
theorem OE:∀ x∈nN,ow x∧pE x:=fun x hx=>by
 have:x=[⟨false, .mk 2 [gN],gN⟩]:=by simpa [nN] using hx
 subst this
 exact Oh _ (by decide) ⟨FC.2.2.1,FC.1⟩
theorem Lx (t:Tm) (h:t.size<100) (hf:t.fit):ow (im t)∧pE (im t):=Oh _ ⟨by simp [Tm.size,Tm.bG];omega,by simp [Tm.size,Tm.bG]⟩ ⟨FC.2.2.2.2 t hf,by simp [Tm.fit,Tm.fits,n8]⟩
theorem Yv0 (t:Tm) (h:t.size<100) (hf:t.fit):rf nN (im t):=⟨by decide,fun x hx=>by
 rcases aP.1 hx with rfl | hx
 ·exact Lx t h hf
 ·exact OE x hx⟩
end Go.Proofs
namespace Go.Proofs
open Go Go.cV
theorem G3 {l:List ae} (h:l.length=2):∃ a b,l=[a,b]:=by
 rcases l with _ | ⟨a,_ | ⟨b,_ | ⟨c,l⟩⟩⟩<;>first | exact ⟨_,_,rfl⟩ | simp at h
theorem NZ {l:List ae} (h:l.length=3):∃ a b c,l=[a,b,c]:=by
 rcases l with _ | ⟨a,l⟩
 ·simp at h
 ·obtain ⟨b,c,rfl⟩:=G3 (l:=l) (by simpa using h);exact ⟨_,_,_,rfl⟩
theorem G4 {l:List ae} (h:l.length=4):∃ a b c d,l=[a,b,c,d]:=by
 rcases l with _ | ⟨a,l⟩
 ·simp at h
 ·obtain ⟨b,c,d,rfl⟩:=NZ (l:=l) (by simpa using h);exact ⟨_,_,_,_,rfl⟩
theorem N0 {l:List ae} (h:l.length=5):∃ a b c d e,l=[a,b,c,d,e]:=by
 rcases l with _ | ⟨a,l⟩
 ·simp at h
 ·obtain ⟨b,c,d,e,rfl⟩:=G4 (l:=l) (by simpa using h);exact ⟨_,_,_,_,_,rfl⟩
theorem On:∀ {ts:List Tm},(∀ t∈ts,t.fit)→Tm.fits ts
 | [],_=>trivial
 | t :: ts,h=>⟨h t List.mem_cons_self,On fun x hx=>h x (cq _ hx)⟩
theorem Yp8 (t:Tm):cL t.aN=true:=by rw [dc];rfl
theorem OY:∀ (n:Nat) (cs:List ae),mq Tryz.prog n 70 cs→∃ t:Tm,cs=t.aN.cells∧t.fit:=by
 intro n
 induction n using Nat.strongRecOn with
 | _ n ih =>
 intro cs h
 obtain ⟨m,rfl,h1,h2⟩:=K4 (L:=[(3,0,1),(68,1,1)]) (N:=2) (by kernel_rfl) (by kernel_rfl) h
 obtain ⟨i,e1,hi⟩:=LG (by kernel_rfl) (h2 (3,0,1) (by simp))
 obtain ⟨m',rfl,es,e2,_,h4⟩:=K1 (e:=70) (sz:=2) (ag:=true) (by kernel_rfl) (h2 (68,1,1) (by simp))
 obtain ⟨ts,rfl,h5⟩:=DR (f:=Tm.aN) (p:=Tm.fit) es fun x hx=>by
  obtain ⟨g1,g2⟩:=h4 x hx
  obtain ⟨t,g3,g4⟩:=ih m' (by omega) _ g2
  exact ⟨t,HX g1 (Yp8 t) g3,g4⟩
 obtain ⟨a,b,rfl⟩:=G3 h1
 simp at e1 e2
 subst e1 e2
 exact ⟨.mk i ts,by rw [fq];rfl,hi,On h5⟩
theorem Sz {a:ae} {t e:TypeId} {sz:Nat} {ag:Bool} (hs:nz Tryz.prog t=some (e,sz,ag)) (ha:iR Tryz.prog t=false) (h:zF Tryz.prog t a):∃ m es,a = .ps sz es∧es.length≤maxLen∧∀ x∈es,cL x=ag∧mq Tryz.prog m e x.cells:=by
 obtain ⟨h1,n,h2⟩:=h
 obtain ⟨m,_,es,h3,h4,h5⟩:=K1 hs h2
 exact ⟨m,es,J2 (h1.trans ha) h3,h4,h5⟩
theorem Ypz (n:Nat) (cs:List ae) (h:mq Tryz.prog n 79 cs):∃ s:Sy,cs=s.aN.cells∧True:=by
 obtain ⟨m,rfl,h1,h2⟩:=K4 (L:=[(9,0,1),(3,1,1),(3,2,1),(4,3,1)]) (N:=4) (by kernel_rfl) (by kernel_rfl) h
 obtain ⟨s,e1,_⟩:=Yp1 (by kernel_rfl) (h2 (9,0,1) (by simp))
 obtain ⟨i,e2,_⟩:=LG (by kernel_rfl) (h2 (3,1,1) (by simp))
 obtain ⟨j,e3,_⟩:=LG (by kernel_rfl) (h2 (3,2,1) (by simp))
 obtain ⟨b,e4⟩:=UO (by kernel_rfl) (h2 (4,3,1) (by simp))
 obtain ⟨x1,x2,x3,x4,rfl⟩:=G4 h1
 simp at e1 e2 e3 e4
 subst e1 e2 e3 e4
 exact ⟨⟨s,i,j,b⟩,rfl,trivial⟩
theorem Ym3 {a:ae} (h:zF Tryz.prog 22 a):∃ g:List Sy,a = .ps 4 (syms g):=by
 obtain ⟨m,es,rfl,_,h5⟩:=Sz (e:=79) (sz:=4) (ag:=true) (by kernel_rfl) (by kernel_rfl) h
 obtain ⟨g,rfl,_⟩:=DR (f:=Sy.aN) (p:=fun _=>True) es fun x hx=>by
  obtain ⟨g1,g2⟩:=h5 x hx
  obtain ⟨s,g3,_⟩:=Ypz m _ g2
  exact ⟨s,HX g1 rfl g3,trivial⟩
 exact ⟨g,rfl⟩
theorem OB (n:Nat) (cs:List ae) (h:mq Tryz.prog n 74 cs):∃ l:Li,cs=l.aN.cells∧l.l.fit∧l.r.fit:=by
 obtain ⟨m,rfl,h1,h2⟩:=K4 (L:=[(4,0,1),(70,1,2),(70,3,2)]) (N:=5) (by kernel_rfl) (by kernel_rfl) h
 obtain ⟨b,e1⟩:=UO (by kernel_rfl) (h2 (4,0,1) (by simp))
 obtain ⟨l,e2,f2⟩:=OY m _ (h2 (70,1,2) (by simp))
 obtain ⟨r,e3,f3⟩:=OY m _ (h2 (70,3,2) (by simp))
 obtain ⟨x1,x2,x3,x4,x5,rfl⟩:=N0 h1
 rw [fq] at e2 e3
 simp at e1 e2 e3
 obtain ⟨rfl,rfl⟩:=e2
 obtain ⟨rfl,rfl⟩:=e3
 subst e1
 exact ⟨⟨b,l,r⟩,rfl,f2,f3⟩
theorem Yot {a:ae} (h:zF Tryz.prog 23 a):∃ es:List (List Li),a = .ps 1 (cP es)∧∀ c∈es,pE c:=by
 obtain ⟨m,es,rfl,h4,h5⟩:=Sz (e:=24) (sz:=1) (ag:=false) (by kernel_rfl) (by kernel_rfl) h
 obtain ⟨c,rfl,hc⟩:=DR (f:=fun c=>.ps 5 (lits c)) (p:=pE) es fun x hx=>by
  obtain ⟨g1,g2⟩:=h5 x hx
  obtain ⟨m',_,pX,e2,_,h6⟩:=K1 (e:=74) (sz:=5) (ag:=true) (by kernel_rfl) g2
  obtain ⟨c,rfl,hc⟩:=DR (f:=Li.aN) (p:=fun l=>l.l.fit∧l.r.fit) pX fun y hy=>by
   obtain ⟨k1,k2⟩:=h6 y hy
   obtain ⟨s,g3,g4⟩:=OB m' _ k2
   exact ⟨s,HX k1 rfl g3,g4⟩
  exact ⟨c,J2 g1 e2,hc⟩
 exact ⟨c,rfl,hc⟩
theorem Zh {a:ae} (h:zF Tryz.prog 24 a):∃ c:List Li,a = .ps 5 (lits c)∧pE c∧c.length≤2600000000000:=by
 obtain ⟨h1,n,h2⟩:=h
 obtain ⟨m,_,es,h3,h4,h5⟩:=Sc (e:=74) (sz:=5) (ag:=true) (by kernel_rfl) h2
 have e1:a = .ps 5 es:=J2 (h1.trans (by kernel_rfl)) h3
 subst e1
 obtain ⟨c,rfl,hc⟩:=DR (f:=Li.aN) (p:=fun l=>l.l.fit∧l.r.fit) es fun x hx=>by
  obtain ⟨g1,g2⟩:=h5 x hx
  obtain ⟨s,g3,g4⟩:=OB m _ g2
  exact ⟨s,HX g1 rfl g3,g4⟩
 refine ⟨c,rfl,hc,?_⟩
 have hb:Tryz.prog.bytesOf 74=72:=by kernel_rfl
 have h6:=h4.2
 rw [hb,ao] at h6
 unfold reachBytes at h6
 omega
end Go.Proofs
namespace Go.Proofs
open Go Go.cV
attribute [local go_sem] Nat.reduceAdd Nat.reduceSub Nat.reduceMul Nat.reduceLeDiff Nat.reduceEqDiff Nat.reduceBEq Nat.reduceLT Nat.le_refl Int.natCast_zero Nat.sub_zero List.length_map Int.toNat_natCast Int.natCast_one Int.reduceEq Int.reduceLT Int.reduceLE Int.reduceNe Int.sub_zero Int.zero_add Int.toNat_one
theorem Yj {c:List Li}:∀ l∈c,l.l.size≤Tm.bG (cT c)∧l.r.size≤Tm.bG (cT c):=by
 induction c with
 | nil=>intro l hl;cases hl
 | cons a c ih =>
  intro l hl
  have e:Tm.bG (cT (a :: c))=a.l.size+(a.r.size+Tm.bG (cT c)):=rfl
  rw [e]
  rcases aP.1 hl with rfl | hl
  ·omega
  ·have:=ih l hl;omega
theorem Ysk {c:List Li} (h:pC c=true):Tm.bG (cT c)≤80∧c.length≤8:=by
 unfold pC at h
 simp only [aD,decide_eq_true_eq] at h
 have:=(Q7 (m:=80) (by omega) (cT c) 0 (by omega) (by omega)).2 h.1
 omega
theorem QP {c:List Li} (h:iI c=true):Tm.bG (cT c)≤500∧c.length≤40:=by
 unfold iI at h
 simp only [aD,decide_eq_true_eq] at h
 have:=(Q_ (cT c) 0 (by omega) (by omega)).2 h.2
 omega
theorem Ow:∀ (es:List (List Li)) (n:Int),(km es n).1=true→∀ c∈es,iI c=true
 | [],_,_,c,hc=>by cases hc
 | d :: es,n,h,c,hc=>by
  rw [km] at h
  split at h
  ·rename_i h1
   rcases aP.1 hc with rfl | hc
   ·exact h1
   ·exact Ow es _ h c hc
  ·cases h
theorem Lu {es:List (List Li)} (h:oN es=true):es.length≤8∧∀ c∈es,iI c=true:=by
 unfold oN at h
 simp only [aD,decide_eq_true_eq] at h
 exact ⟨h.1,Ow es 0 h.2.1⟩
theorem R6 {c:List Li} (h:Tm.bG (cT c)≤1000):ow c:=fun i hi=>by
 have:=Yj (c:=c) _ (aF hi)
 omega
theorem Ytg {es:List (List Li)} {c:List Li} (h1:oN es=true) (h2:pC c=true) (f1:∀ x∈es,pE x) (f2:pE c):rf es c:=by
 obtain ⟨a1,a2⟩:=Lu h1
 refine ⟨by omega,fun x hx=>?_⟩
 rcases aP.1 hx with rfl | hx
 ·exact ⟨R6 (by have:=(Ysk h2).1;omega),f2⟩
 ·exact ⟨R6 (by have:=(QP (a2 x hx)).1;omega),f1 x hx⟩
def nX (bs:List Bd) (v:Int):Tm:=((bs.find? fun b=>b.v==v).map Bd.t).getD (.mk (-1 - v) [])
mutual
def Tm.pd (bs:List Bd):Tm→Tm
 | .mk h ts=>if h<0 then nX bs (-1 - h) else .mk h (Tm.Jn bs ts)
def Tm.Jn (bs:List Bd):List Tm→List Tm
 | []=>[]
 | t :: ts=>t.pd bs :: Tm.Jn bs ts
end
theorem zO {t:Tm} (h:t.good=true) : -256≤t.head∧t.head≤1023∧t.args.length≤8∧(t.head<0→t.args=[]):=by
 obtain ⟨k,ts⟩:=t
 rw [Tm.good] at h
 simp only [aD,bT,cE,decide_eq_false_iff_not,eY] at h
 simp only [Tm.head,Tm.args]
 refine ⟨by omega,by omega,by omega,fun hn=>?_⟩
 rcases h.1.1.1.1 with h1 | h1
 ·exact absurd hn h1
 ·exact aY (by omega)
theorem RD:∀ {ts:List Tm},Tm.fT ts=true→∀ t∈ts,t.good=true
 | x :: ts,h,t,ht=>by
  rw [Tm.fT,aD] at h
  rcases aP.1 ht with rfl | ht
  ·exact h.1
  ·exact RD h.2 t ht
theorem zH {t:Tm} (h:t.good=true):∀ u∈t.args,u.good=true:=by
 obtain ⟨k,ts⟩:=t
 rw [Tm.good,aD] at h
 exact RD h.2
mutual
def jX:Tm→Tm→List Bd→List Bd×Bool
 | .mk h ts,u,s=>if h<0 then (match s.find? (fun b=>b.v == -1 - h) with | some b=>(s,decide (b.t=u)) | none=>(s++[⟨-1 - h,u⟩],true))
  else if h≠u.head∨ts.length≠u.args.length then (s,false) else gR ts u.args s
def gR:List Tm→List Tm→List Bd→List Bd×Bool
 | [],_,s=>(s,true)
 | _ :: _,[],s=>(s,true)
 | t :: ts,u :: us,s=>if (jX t u s).2=true then gR ts us (jX t u s).1 else (s,false)
end
@[go_sem] theorem Xcd (l:List Bd):eL ⟨3,true,40,[.int .i64 0, .int .i64 0, .aU], .struct⟩ (nR l)=True:=eq_true (by
 refine ⟨fun x hx=>?_,by decide,by decide,rfl⟩
 obtain ⟨t,_,rfl⟩:=bW.1 hx
 exact ⟨rfl,rfl⟩)
mutual
theorem Uc {P:Tm→Prop} (hP:∀ t,P t→∀ u∈t.args,P u):∀ (t u:Tm) (s:List Bd),P u→(∀ b∈s,P b.t)→∀ b∈(jX t u s).1,P b.t
 | .mk h ts,u,s,hu,hs=>by
  rw [jX]
  split
  ·split
   ·exact hs
   ·intro b hb
    rcases aX.1 hb with hb | hb
    ·exact hs b hb
    ·rw [aQ.1 hb];exact hu
  ·split
   ·exact hs
   ·exact RK hP ts u.args s (hP u hu) hs
theorem RK {P:Tm→Prop} (hP:∀ t,P t→∀ u∈t.args,P u):∀ (ts us:List Tm) (s:List Bd),(∀ u∈us,P u)→(∀ b∈s,P b.t)→∀ b∈(gR ts us s).1,P b.t
 | [],_,s,_,hs=>by rw [gR];exact hs
 | _ :: _,[],s,_,hs=>by rw [gR];exact hs
 | t :: ts,u :: us,s,hu,hs=>by
  rw [gR]
  have h1:=Uc hP t u s (hu u (by simp)) hs
  split
  ·exact RK hP ts us _ (fun x hx=>hu x (by simp [hx])) h1
  ·exact hs
end
def sX (l:List Tm):Bool:=l.all fun t=>decide (t.check=0)
def wO (p t:List Tm):List Bd×Bool:=if (gR p t []).2=true then gR p t [] else ([],false)
def DM (s:List Bd) (v:Nat):Option Bd:=if (nX s v).head = -1 - (v:Int) then none else some ⟨v,nX s v⟩
def B1 (s:List Bd) (n:Nat):List Bd:=(List.range n).filterMap (DM s)
def uF (s:List Bd):List Bd:=B1 s 256
def gL (p t:List Tm):List Bd×Bool×Int :=
 if sX p=false∨sX t=false∨p.length≠t.length then ([],false,1) else if (wO p t).2=false then ([],false,0) else (uF (wO p t).1,true,0)
theorem Rc {t u:Tm} (h:u∈t.args):u.depth<t.depth:=by
 obtain ⟨k,ts⟩:=t
 have key:∀ ts:List Tm,u∈ts→u.depth≤Tm.iz ts:=by
  intro ts
  induction ts with
  | nil=>intro h;cases h
  | cons a ts ih =>
   intro h
   rw [Tm.iz]
   rcases aP.1 h with rfl | h
   ·omega
   ·have:=ih h;omega
 have:=key ts h
 rw [Tm.depth];omega
theorem QX {g:List Sy}:∀ {ts:List Tm},Tm.gM g ts=true→∀ u∈ts,u.known g=true
 | a :: ts,h,u,hu=>by
  rw [Tm.gM,aD] at h
  rcases aP.1 hu with rfl | hu
  ·exact h.1
  ·exact QX h.2 u hu
theorem Rq {g:List Sy}:∀ {ts:List Tm},Tm.jq g ts=true→∀ u∈ts,u.cA g=false∧u.jo g=true
 | a :: ts,h,u,hu=>by
  rw [Tm.jq,aD,aD,bT] at h
  rcases aP.1 hu with rfl | hu
  ·exact h.1
  ·exact Rq h.2 u hu
theorem Yof {g:List Sy} {t:Tm} (hs:fV g=true) (h1:t.check=0) (h2:t.known g=true) (h3:t.jo g=true):t.term g=0:=by
 unfold Tm.term
 rw [if_neg (by rw [hs];simp),if_neg (by simp [h1]),if_neg (by rw [h2];simp),if_neg (by rw [h3];simp)]
theorem Tj {t:Tm} (h1:t.size≤400) (h2:t.depth≤40) (h3:t.good=true):t.check=0:=by
 unfold Tm.check
 rw [if_neg (by omega),if_neg (by omega),if_pos h3]
theorem Zq {g:List Sy} {t:Tm} (h:t.term g=0):∀ u∈t.args,u.term g=0∧u.cA g=false:=fun u hu=>by
 have hs:=J0 h
 obtain ⟨h1,h2,h3⟩:=ph h
 obtain ⟨c1,c2,c3⟩:=sE h1
 have z1:=tb hu
 have z2:=oA t
 have z3:=Rc hu
 have z4:=zH c3 u hu
 obtain ⟨k,ts⟩:=t
 have Av:Tm.gM g ts=true:=by
  rw [Tm.known] at h2
  simp only [b9,aD,decide_eq_true_eq] at h2
  rcases h2 with h2 | h2
  ·have:=(zO c3).2.2.2 h2
   rw [this] at hu;cases hu
  ·exact h2.2
 obtain ⟨y1,y2⟩:=Rq (by rwa [Tm.jo] at h3) u hu
 exact ⟨Yof hs (Tj (by omega) (by omega) z4) (QX Av u hu) y2,y1⟩
theorem K7 {g:List Sy}:∀ t,jQ g t→∀ u∈t.args,jQ g u:=fun t h u hu=>⟨(Zq h.1 u hu).1,wJ (xm h.2) u hu⟩
mutual
def Tm.cv (v:Int):Tm→Nat
 | .mk h ts=>(if h = -1 - v then 1 else 0)+Tm.Bp v ts
def Tm.Bp (v:Int):List Tm→Nat
 | []=>0
 | t :: ts=>t.cv v+Tm.Bp v ts
end
mutual
def Tm.mj (g:List Sy):Tm→Int
 | .mk h ts=>if h<0 then 1 else Tm.pR g ts (nu g h)
def Tm.pR (g:List Sy):List Tm→Int→Int
 | [],n=>n
 | t :: ts,n=>Tm.pR g ts (n+t.mj g)
end
theorem Ld (g:List Sy):∀ (ts:List Tm) (n m:Int),Tm.pR g ts (n+m)=Tm.pR g ts n+m
 | [],n,m=>rfl
 | t :: ts,n,m=>by rw [Tm.pR,Tm.pR,show n+m+t.mj g=n+t.mj g+m by omega,Ld g ts]
def gp (a b:Tm):Bool:=b.vars.all fun v=>decide (b.cv v≤a.cv v)
mutual
def Tm.gr (g:List Sy):Tm→Tm→Bool
 | .mk h ts,u=>if gp (.mk h ts) u=false then false else if (Tm.mk h ts).mj g≠u.mj g then decide (u.mj g<(Tm.mk h ts).mj g) else
  if h<0∨u.head<0 then false else if h≠u.head then decide (u.head<h) else Tm.rO g ts u.args
def Tm.rO (g:List Sy):List Tm→List Tm→Bool
 | [],_=>false
 | _ :: _,[]=>false
 | t :: ts,u :: us=>if t=u then Tm.rO g ts us else t.gr g u
end
theorem Yyf {g:List Sy} {t u:Tm} (ht:jQ g t) (hu:jQ g u) (h0 : 0≤t.head) (he:t.head=u.head):t.args.length=u.args.length:=by
 have h1:=IG (IQ ht).2.2.1 h0
 have h2:=IG (IQ hu).2.2.1 (by omega)
 rw [he] at h1
 omega
def fk (p:Nat→Bool):Nat→Nat→Option Nat
 | 0,_=>none
 | n+1,k=>if p k then some k else fk p n (k+1)
def Jp {α:Type} (same : α→α→Bool) (b:List α) (us:List Bool) (x : α) (k:Nat):Bool:=!us.getD k false&&(match b[k]? with | some y=>same x y | none=>false)
theorem Yvm {α:Type} {same : α→α→Bool} {b:List α} {us:List Bool} {x : α} {k:Nat} (h:k<b.length):Jp same b us x k=(!us.getD k false&&same x b[k]):=by simp [Jp,h]
def tX (x y:Tm):Bool:=decide (x=y)
def xB {α:Type} (same : α→α→Bool) (b:List α):List α→List Bool→List α
 | [],_=>[]
 | x :: a,us=>match fk (Jp same b us x) b.length 0 with
  | none=>x :: xB same b a us
  | some k=>xB same b a (us.set k true)
def f_ (l:List Bool):List ae:=l.map .bool
theorem Ce (l:List Bool):(f_ l).length=l.length:=by simp [f_]
theorem rL {n:Nat} (l:List Bool):bx n (f_ l):=uN fun _ _=>trivial
theorem HL {l:List Bool} {i:Nat} (h:i<l.length):(f_ l).getD i .undef = .bool (l.getD i false):=by simp [f_,List.getD,h]
theorem YJ (n:Nat):List.replicate n (ae.bool false)=f_ (List.replicate n false):=by simp [f_]
def pO {α:Type} (gt : α→α→Bool) (a b:List α):Bool:=(b.all fun y=>a.any fun x=>gt x y)&&decide (0<a.length)
theorem Yli {α:Type} (gt : α→α→Bool) (a b:List α) (y : α):pO gt a (y :: b)=((a.any fun x=>gt x y)&&pO gt a b):=by simp [pO,Bool.and_assoc]
def vJ {α:Type} (same gt : α→α→Bool) (a b:List α):Int :=
 if (xB same b a (List.replicate b.length false)).length+(xB same a b (List.replicate a.length false)).length=0 then 0 else
 if pO gt (xB same b a (List.replicate b.length false)) (xB same a b (List.replicate a.length false))=true then 1 else
 if pO gt (xB same a b (List.replicate a.length false)) (xB same b a (List.replicate b.length false))=true then -1 else 2
def AX (g:List Sy) (a b:Li):Int:=vJ tX (Tm.gr g) (lF a) (lF b)
def BW (g:List Sy) (l:Li):Prop:=jQ g l.l∧jQ g l.r
theorem OS {g:List Sy} {l:Li} (h:BW g l):∀ x∈lF l,jQ g x:=fun x hx=>by
 rcases K6 hx with rfl | rfl
 ·exact h.1
 ·exact h.2
def uE (g:List Sy) (c d:List Li):Int:=vJ eV (fun x y=>decide (AX g x y=1)) c d
def gI (l:Li) (n:Int):Tm×Tm:=if n=0 then (l.l,l.r) else (l.r,l.l)
theorem Ypy {P:Tm→Prop} {s:List Bd} (h:∀ b∈s,P b.t) {v:Int} (hv:P (.mk (-1 - v) [])):P (nX s v):=by
 unfold nX
 cases hf:s.find? (fun b=>b.v==v) with
 | some b=>exact h b (bQ hf)
 | none=>exact hv
def py (x y:Tm):Li:=⟨false,x,y⟩
def wC (g:List Sy) (e:Li) (n:Int) (u:Tm) (c:List Li):Tm×Bool :=
 if (gI e n).1.head=0∨(gI e n).1.cA g≠u.cA g∨within (gI e n).2 (gI e n).1=false then (u,false) else
 if (gL [(gI e n).1] [u]).2.2≠0∨(gL [(gI e n).1] [u]).2.1=false then (u,false) else
 if a_ g [py ((gI e n).1.pd (gL [(gI e n).1] [u]).1) ((gI e n).2.pd (gL [(gI e n).1] [u]).1)]≠0 ∧
  a_ g [py ((gI e n).2.pd (gL [(gI e n).1] [u]).1) ((gI e n).1.pd (gL [(gI e n).1] [u]).1)]≠0 then (u,false) else
 if ((gI e n).1.pd (gL [(gI e n).1] [u]).1).gr g ((gI e n).2.pd (gL [(gI e n).1] [u]).1)=false ∨
  uE g [py ((gI e n).1.pd (gL [(gI e n).1] [u]).1) ((gI e n).2.pd (gL [(gI e n).1] [u]).1)] c≠-1 then (u,false) else
 ((gI e n).2.pd (gL [(gI e n).1] [u]).1,true)
theorem JE {g:List Sy} {x y:Tm} (h:a_ g [py x y]=0):x.term g=0∧y.term g=0:=by
 have h1:=(zG h).2.2 (py x y) (by simp)
 exact A8 h1
theorem Yme {g:List Sy} {c:List Li} (hc:kN g c):∀ s∈cG c 0,jQ g s.t:=fun s hs=>by
 obtain ⟨j,hj,h1,h2,h3⟩:=DS c 0 s hs
 exact Ft K7 _ _ _ (Fj hc (aF hj) s.rt) h2
end Go.Proofs
