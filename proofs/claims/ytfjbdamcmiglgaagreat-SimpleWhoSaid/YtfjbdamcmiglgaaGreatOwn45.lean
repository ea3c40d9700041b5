/- Part 45 of my own framework and of the walks of functions: Ss, Sr, St, AcsZa, Su, Sv, Sw, Sx, Sy, Ua, Ub, Uc, Ud, Ue, Uf, Ug, Uh, Ui, Uj, Uk, Ul, Um, Un, Uo, Up, Uq, Ur, Us, Ut, Uu, Uv, Va, Vb, Vc, Vd, Ve, Wa, Wb, Wc, Wd, We, Wf, Wg, Wh, Wi, Wj, Wk, Wl, Wm, Wn, Wo, Wp, Wq, Wr, Ws. -/
import Derived.Test.YtfjbdamcmiglgaaGreatOwn44
import Derived.Shelf.Sort.Plain
import Derived.Shelf.Slices.In.SortNone
import Derived.Test.YtfjbdamcmiglgaaGreatProg
abbrev db:=@Bool.false_and
abbrev gB:=@List.find?_some
abbrev jG:=@List.mergeSort_perm
set_option linter.unusedVariables false
set_option linter.unusedSectionVars false
set_option linter.unusedSimpArgs false
namespace Go.Proofs
open Go.Shelf
def Tryz.lays189_ren:Go.Shelf.Ren:=⟨fun | 189=>225 | 125=>238 | 257=>237 | 128=>256 | 129=>257 | 294=>247 | 295=>248 | 296=>249 | 297=>250 | 298=>251 | 299=>252 | 216=>253 | 300=>254 | 301=>255 | 328=>260 | 329=>261 | 330=>262 | 331=>263 | 332=>264 | 215=>265 | 343=>266 | n=>n,fun | 28=>26 | 3=>3 | 46=>265 | 0=>0 | 51=>279 | 53=>281 | 4=>4 | 183=>272 | 182=>271 | 131=>135 | 5=>5 | 9=>9 | 218=>282 | 222=>286 | 228=>288 | 229=>289 | n=>n,fun | n=>n⟩
theorem Tryz.lays189:Go.Proofs.Lays.n189 Tryz.prog Tryz.lays189_ren:={
 mixed:=by kernel_rfl
 f125:=Tryz.func238.trans (congrArg some (by kernel_rfl))
 f128:=Tryz.func256.trans (congrArg some (by kernel_rfl))
 f129:=Tryz.func257.trans (congrArg some (by kernel_rfl))
 f189:=Tryz.func225.trans (congrArg some (by kernel_rfl))
 f215:=Tryz.func265.trans (congrArg some (by kernel_rfl))
 f216:=Tryz.func253.trans (congrArg some (by kernel_rfl))
 f257:=Tryz.func237.trans (congrArg some (by kernel_rfl))
 f294:=Tryz.func247.trans (congrArg some (by kernel_rfl))
 f295:=Tryz.func248.trans (congrArg some (by kernel_rfl))
 f296:=Tryz.func249.trans (congrArg some (by kernel_rfl))
 f297:=Tryz.func250.trans (congrArg some (by kernel_rfl))
 f298:=Tryz.func251.trans (congrArg some (by kernel_rfl))
 f299:=Tryz.func252.trans (congrArg some (by kernel_rfl))
 f300:=Tryz.func254.trans (congrArg some (by kernel_rfl))
 f301:=Tryz.func255.trans (congrArg some (by kernel_rfl))
 f328:=Tryz.func260.trans (congrArg some (by kernel_rfl))
 f329:=Tryz.func261.trans (congrArg some (by kernel_rfl))
 f330:=Tryz.func262.trans (congrArg some (by kernel_rfl))
 f331:=Tryz.func263.trans (congrArg some (by kernel_rfl))
 f332:=Tryz.func264.trans (congrArg some (by kernel_rfl))
 f343:=Tryz.func266.trans (congrArg some (by kernel_rfl))
 t0:=Tryz.underlying0
 a0:=Tryz.isAgg0
 z0:=Tryz.sizeOf0
 v0:=Tryz.zeroValue0
 t3:=Tryz.underlying3
 a3:=Tryz.isAgg3
 z3:=Tryz.sizeOf3
 v3:=Tryz.zeroValue3
 t4:=Tryz.underlying4
 a4:=Tryz.isAgg4
 z4:=Tryz.sizeOf4
 v4:=Tryz.zeroValue4
 t5:=Tryz.underlying5
 a5:=Tryz.isAgg5
 z5:=Tryz.sizeOf5
 v5:=Tryz.zeroValue5
 t9:=Tryz.underlying9
 a9:=Tryz.isAgg9
 z9:=Tryz.sizeOf9
 v9:=Tryz.zeroValue9
 t28:=Tryz.underlying26
 a28:=Tryz.isAgg26
 z28:=Tryz.sizeOf26
 v28:=Tryz.zeroValue26
 t46:=Tryz.underlying265
 a46:=Tryz.isAgg265
 z46:=Tryz.sizeOf265
 v46:=Tryz.zeroValue265
 t51:=Tryz.underlying279
 a51:=Tryz.isAgg279
 z51:=Tryz.sizeOf279
 v51:=Tryz.zeroValue279
 t53:=Tryz.underlying281
 a53:=Tryz.isAgg281
 z53:=Tryz.sizeOf281
 v53:=Tryz.zeroValue281
 t131:=Tryz.underlying135
 a131:=Tryz.isAgg135
 z131:=Tryz.sizeOf135
 v131:=Tryz.zeroValue135
 t182:=Tryz.underlying271
 a182:=Tryz.isAgg271
 z182:=Tryz.sizeOf271
 v182:=Tryz.zeroValue271
 t183:=Tryz.underlying272
 a183:=Tryz.isAgg272
 z183:=Tryz.sizeOf272
 v183:=Tryz.zeroValue272
 t218:=Tryz.underlying282
 a218:=Tryz.isAgg282
 z218:=Tryz.sizeOf282
 v218:=Tryz.zeroValue282
 t222:=Tryz.underlying286
 a222:=Tryz.isAgg286
 z222:=Tryz.sizeOf286
 v222:=Tryz.zeroValue286
 t228:=Tryz.underlying288
 a228:=Tryz.isAgg288
 z228:=Tryz.sizeOf288
 v228:=Tryz.zeroValue288
 t229:=Tryz.underlying289
 a229:=Tryz.isAgg289
 z229:=Tryz.sizeOf289
 v229:=Tryz.zeroValue289 }
open Go.Sort Go.RowKit in
theorem Tryz.slices_Sort_int (cd off cap:Nat) (zs:List Int) (w:World) (hH:Holds (Value.int .i64) w cd off zs.toArray) (xT:cd<w.heap.size) (fF:zs.length<4611686018427387904) :
  Calls Tryz.prog 225 #[.slice (some ⟨cd,off,none⟩) zs.length cap] w fun e w' =>
   e = .returned (.tuple #[])∧∃ n os,w'=grow (putRow (Value.int .i64) (Sort.ahead w n) cd off (zs.mergeSort fun x y=>decide (x≤y)).toArray) os:=Any.slices_Sort_int Tryz.lays189 cd off cap zs w hH xT fF
open Go.RowKit Go.Sort in
theorem Tryz.slices_Sort_int_none (p:Option Addr) (cap:Nat) (w:World) :
  Calls Tryz.prog 225 #[.slice p 0 cap] w fun e w'=>e = .returned (.tuple #[])∧w'=w:=Any.slices_Sort_int_none Tryz.lays189 p cap w
end Go.Proofs
namespace Go.Proofs
open Go Go.c8
attribute [local go_sem] Nat.reduceAdd Nat.reduceSub Nat.reduceMul Nat.reduceLeDiff Nat.reduceEqDiff Nat.reduceBEq Nat.reduceLT Nat.le_refl Int.natCast_zero Nat.sub_zero List.length_map Int.toNat_natCast Int.natCast_one Int.reduceEq Int.reduceLT Int.reduceLE Int.reduceNe Int.sub_zero Int.zero_add Int.toNat_one
theorem Yza {m n b:Nat} (h:b<m∨n≤b):aw m n (.it b):=fun ρ dJ=>by simp only [dG,dJ b h]
theorem Yrz {m n:Nat} {ks vs:List ae} {seen:List Nat} (hk:bx 0 ks) (hv:bx 0 vs):IF m n (some (.kZ ks vs seen)):=fun ρ dJ y hy=>by
 cases hy;simp only [dE,cD hk,cD hv]
theorem Sc {σ:ai} {x:Option bE} {n:Nat} (h : σ.length=n):bG (σ++[x]) n=x:=by subst h;simp [bG]
theorem Xa {σ:ai} {x:Option bE} {B:bE} {n:Nat} (h : σ.length=n):bZ (σ++[x]) n B = σ++[some B]:=by subst h;simp [bZ]
theorem HX:∀ (σ τ:ai),ic σ (σ++τ)
 | [],_=>trivial
 | a :: σ,τ=>⟨.inl rfl,HX σ τ⟩
theorem Yjc (kv:List Int) (vs:List ae) (mg:bx 0 vs) (n0:Nat) (kf:ai) (S:List Nat→ai) (p:Nat) (y:ae) (h0 : kf.length=n0) (xO : kf++[none]=S []) (hlen:∀ i,(S i).length=n0+1) (eE:∀ i,bG (S i) p=some (.var [.pm (ints kv) vs])) (hp:p<n0)
  (hs:∀ i,bt (n0+1) (S i)) (nH:bt n0 kf) (nJ:y.low n0)
  (hy:∀ (seen:List Nat) (j:Nat) (h:j<kv.length),j ∉ seen→seen.Nodup→(∀ i∈seen,i<kv.length)→aq Tryz.prog y [.int .i64 kv[j]] (S seen) (fun r σ'=>r = .bool true∧n0+1≤σ'.length∧bt σ'.length σ'∧∃ π:Nat→Nat,(∀ b,b<n0→π b=b)∧(∀ b b',b<n0+1→b'<n0+1→π b = π b'→b=b')∧gj π σ' 0 (S (seen++[j])))) :
  aq Tryz.prog (.fn 226 [] [.ptr p 0]) [y] kf (fun _ σ'=>∃ seen:List Nat,seen.Nodup∧(∀ i,i∈seen↔i<kv.length)∧σ'=S seen):=by
 subst h0
 refine aq.l8 (rs:=[]) (m:=12) Tryz.func226 rfl rfl rfl rfl rfl ?_
 refine aK.pad 1 (ah _) (by simp [go_sem,nJ,hp]) nH ?_
 rw [show List.replicate 1 (none:Option bE)=[none] from rfl,xO]
 refine aK.go 1000 ?_
 simp only [go_sem,eE,ah]
 rw [Ba,hlen]
 have Gv:∀ seen,bt (kf.length+2) [some (bE.kZ (ints kv) vs seen)]:=fun seen=>⟨⟨du _,il (av _) mg⟩,trivial⟩
 have p9:∀ seen,bt (kf.length+2) (S seen++[some (bE.kZ (ints kv) vs seen)]):=fun seen=>o8 (nx (by omega) (hs seen)) (Gv seen)
 refine aK.c_ (ι:={seen:List Nat // seen.Nodup∧∀ i∈seen,i<kv.length}) 1000 (fun q=>fG 14 [(0,y),(5, .it (kf.length+1))]) (fun q=>S q.1++[some (.kZ (ints kv) vs q.1)]) (fun q=>sQ kv.length q.1) ⟨[],kG,fun i hi=>by cases hi⟩ ?_ (fun q=>by rw [ay,hlen];simp only;omega) ?_
 ·simp only [go_sem,ay,hlen,ax,aR,p9,mQ (m:=kf.length+1+1) (bN _ 2) nJ]
  exact ⟨fx _,by omega⟩
 ·rintro ⟨seen,oR,bD⟩
  simp only [go_sem]
  have hgm:bG (S seen++[some (bE.kZ (ints kv) vs seen)]) (kf.length+1)=some (.kZ (ints kv) vs seen):=Sc (hlen seen)
  refine ⟨kf.length+1,ints kv,vs,seen,rfl,hgm,fun j hj hn=>?_,fun eK=>?_⟩
  ·rw [lH] at hj
   rw [Xa (hlen seen),xd hj]
   have hz:ae.low 0 (vs.getD j .undef):=iW mg j
   obtain ⟨z,BK⟩:∃ z,vs.getD j .undef=z:=⟨_,rfl⟩
   rw [BK] at hz ⊢
   have Mh:aw kf.length (kf.length+1) (.dz [.bool true, .int .i64 kv[j],z]):=Ci (mQ (av _) (show ae.low 0 _ from ⟨trivial,trivial,hz,trivial⟩))
   have Mi:aw kf.length (kf.length+1) (.dz [.int .i64 kv[j],z]):=Ci (mQ (av _) (show ae.low 0 _ from ⟨trivial,hz,trivial⟩))
   have MX:(seen++[j]).Nodup:=by
    rw [gD]
    exact ⟨oR,by simp,fun a ha b hb=>by rw [aN.1 hb];exact fun e=>hn (e ▸ ha)⟩
   have aZ:∀ i∈seen++[j],i<kv.length:=fun i hi=>by
    rcases aW.1 hi with hi | hi
    ·exact bD i hi
    ·rw [aN.1 hi];exact hj
   have ME:bG (S seen++[some (bE.kZ (ints kv) vs (seen++[j]))]) (kf.length+1)=some (.kZ (ints kv) vs (seen++[j])):=Sc (hlen seen)
   refine aK.go 1000 ?_
   simp only [go_sem,ME,xd hj,BK]
   refine aK.qw (σ:=S seen) (τ:=[some (bE.kZ (ints kv) vs (seen++[j]))]) (.bool true) trivial (by rw [hlen];exact dI _) ?_ ?_ ?_ ?_ ?_ ?_ ?_ ?_
   ·rw [hlen];exact mQ (dI _) nJ
   ·simp [go_sem]
   ·rw [hlen];exact hs seen
   ·rw [hlen]
    have hit:=Yza (m:=kf.length) (n:=kf.length+1) (b:=kf.length+1) (.inr (ah _))
    simp [go_sem,DM,DX,Ci,nJ,hit,Mh,Mi]
   ·rw [QI,Sk]
    exact ⟨Yrz (du _) mg,trivial⟩
   ·rw [hlen]
    have nU:=mQ (m:=kf.length+1+1) (bN _ 2) nJ
    have hvg:=mQ (av (kf.length+1+1)) hz
    simp [go_sem,nU,hvg]
   ·rw [hlen];exact Gv _
   refine (hy seen j hj hn oR bD).mono ?_
   rintro r σ' ⟨k1,k2,k3,π,k4,k5,k6⟩
   rw [hlen]
   refine ⟨k1,k2,k3,π,S (seen++[j]),hlen _,k4,k5,k6,hs _,?_⟩
   refine aK.go 1000 ?_
   simp only [go_sem]
   refine ⟨⟨seen++[j],MX,aZ⟩,?_,Sn hj hn⟩
   simp only [go_sem,ay,hlen,ax,aR,p9,mQ (m:=kf.length+1+1) (bN _ 2) nJ]
   exact ⟨fx _,by omega⟩
  ·refine aK.go 1000 ?_
   simp only [go_sem]
   refine aK.go 1000 ?_
   simp only [go_sem]
   rw [fL]
   exact ⟨S seen,HX _ _,by rw [hlen];exact dI _,by rw [hlen];exact hs _,trivial,seen,oR,fun i=>⟨bD i,fun h=>eK i (by rw [lH];exact h)⟩,rfl⟩
def na (kv:List Int) (seen:List Nat):List Int:=seen.map fun j=>kv.getD j 0
theorem Xb {kv:List Int} {seen:List Nat} {j:Nat} (h:j<kv.length):na kv (seen++[j])=na kv seen++[kv[j]]:=by simp [na,List.getD,h]
theorem Y7 (kv:List Int) (seen:List Nat):(na kv seen).length=seen.length:=by simp [na]
theorem Zo2 (kv:List Int) (vs:List ae) (mg:bx 0 vs) (hl:kv.length<100000000) :
  aq Tryz.prog (.fn 236 [] []) [.aU, .fn 226 [] [.ptr 0 0]] [some (.var [.pm (ints kv) vs])]
   (fun r σ'=>∃ seen:List Nat,seen.Nodup∧(∀ i,i∈seen↔i<kv.length)∧r=i_ 3 1 (ints (na kv seen))∧σ'=[some (.var [.pm (ints kv) vs]),none,none,eV (ints (na kv seen))]):=by
 refine aq.begin (rs:=[.tmp 4]) (m:=11) 1000 Tryz.func236 rfl rfl rfl rfl rfl ?_
 simp only [go_sem]
 refine aK.rangeFunc (fG 13 [(2, .ptr 1 0)]) ?_ ?_ (fun ρ ht vl kV qD=>?_)
 ·simp only [go_sem]
 ·exact fun b hb=>by cases hb
 simp only [go_sem]
 have jf:bx 3 ρ.tm:=by rw [ht];simp [go_sem,zP,zT]
 have fQ:∀ l:List Int,bt 4 [some (.var [.pm (ints kv) vs]),some (.var [i_ 3 1 (ints l)]),some (.loop (ρ.at .ready)),eV (ints l)] :=
  fun l=>⟨⟨⟨du _,il (av _) mg⟩,trivial⟩,⟨Be (by decide) 1 _,trivial⟩,il (by decide) jf,zM _ (du _),trivial⟩
 refine (Yjc kv vs mg 3 _ (fun seen=>[some (.var [.pm (ints kv) vs]),some (.var [i_ 3 1 (ints (na kv seen))]),some (.loop (ρ.at .ready)),eV (ints (na kv seen))]) 0 (.ld 2) rfl rfl (fun _=>rfl) (fun _=>rfl) (by decide) (fun k=>fQ _) ?_ (cy 2) (fun seen j hj hn oR bD=>?_)).mono ?_
 ·exact ⟨⟨⟨du _,il (av _) mg⟩,trivial⟩,⟨trivial,trivial⟩,jf,trivial⟩
 ·have yn:(na kv seen).length≤kv.length:=by
   rw [Y7]
   have h1:seen.length≤(List.range kv.length).length:=List.Nodup.length_le_of_subset oR fun i hi=>cu.2 (bD i hi)
   rwa [List.length_range] at h1
  rw [Xb hj]
  generalize kv[j]=v at *
  generalize na kv seen=L at *
  have vX:∀ b,b<3→pi [(3,5),(5,3)] b=b:=by decide
  refine aq.move [(3,5),(5,3)] (S':=[some (.var [.pm (ints kv) vs]),some (.var [.os 5 0 (L.length+1) 1]),some (.loop (ρ.at .ready)),none,none,some (.row (ints L++[.int .i64 v]) 0)]) ?_ ?_ rfl ?_ ?_
  ·exact bN 4 2
  ·exact ⟨⟨⟨du _,il (av _) mg⟩,trivial⟩,⟨cy 5,trivial⟩,il (bN 3 3) jf,trivial,trivial,rO (du _) ⟨trivial,trivial⟩,trivial⟩
  ·have sZ:=Bb (pi [(3,5),(5,3)]) 3 vX (.loop (ρ.at .ready)) jf
   simp only [B_,Fg,E6,Hx,Hu,Kq,sZ]
   simp [go_sem,cD mg,cD (du _),cD (rO (du L) (show bx 0 [ae.int .i64 v] from ⟨trivial,trivial⟩)),lH]
  refine aq.lK 1000 ht vl kV qD rfl rfl ?_
  simp only [go_sem,eI,aN,forall_eq,cm,uO,lH]
  refine ⟨by omega,?_⟩
  rw [tA]
  exact ⟨rfl,[some (.var [.pm (ints kv) vs]),some (.var [.os 5 0 (L.length+1) 1]),some (.loop (ρ.at .ready)),none,none,some (.row (ints L++[.int .i64 v]) 0)],by simp [go_sem],bN 4 2,⟨⟨⟨du _,il (av _) mg⟩,trivial⟩,⟨cy 5,trivial⟩,il (bN 3 3) jf,trivial,trivial,rO (du _) (show bx 6 [ae.int .i64 v] from ⟨trivial,trivial⟩),trivial⟩,rfl,rfl⟩
 rintro r' iM ⟨seen,oR,eK,rfl⟩
 rw [Cm]
 refine ⟨.ready,rfl,?_⟩
 rw [D2]
 refine aK.go 1000 ?_
 simp only [go_sem]
 rw [fL]
 exact ⟨[some (.var [.pm (ints kv) vs]),none,none,eV (ints (na kv seen))],by simp [go_sem],by simp,⟨⟨⟨du _,il (av _) mg⟩,trivial⟩,trivial,trivial,zM _ (du _),trivial⟩,Be (show 3<4 by decide) 1 _,seen,oR,eK,rfl,rfl⟩
theorem Zvb (kv:List Int) (vs:List ae) (mg:bx 0 vs) (hl:kv.length<100000000) :
  aq Tryz.prog (.fn 224 [] []) [.fn 226 [] [.ptr 0 0]] [some (.var [.pm (ints kv) vs])]
   (fun r σ'=>∃ seen:List Nat,seen.Nodup∧(∀ i,i∈seen↔i<kv.length)∧r=i_ 3 1 (ints (na kv seen))∧σ'=[some (.var [.pm (ints kv) vs]),none,none,eV (ints (na kv seen))]):=by
 refine aq.begin (rs:=[.tmp 2]) (m:=4) 1000 Tryz.func224 rfl rfl rfl rfl rfl ?_
 simp only [go_sem]
 refine (Zo2 kv vs mg hl).mono ?_
 rintro r σ' ⟨seen,oR,eK,rfl,rfl⟩
 refine aK.go 1000 ?_
 simp only [go_sem]
 rw [fL]
 exact ⟨[some (.var [.pm (ints kv) vs]),none,none,eV (ints (na kv seen))],by simp [go_sem],by simp,⟨⟨⟨du _,il (av _) mg⟩,trivial⟩,trivial,trivial,zM _ (du _),trivial⟩,Be (show 3<4 by decide) 1 _,seen,oR,eK,rfl,rfl⟩
def fW (l:List Int):List Int:=l.mergeSort fun x y=>decide (x≤y)
theorem DN (l:List Int):(fW l).length=l.length:=List.length_mergeSort l
theorem Zzk {a b:List Int} (h:a.Perm b):fW a=fW b:=by
 have ht:∀ x y z:Int,decide (x≤y)=true→decide (y≤z)=true→decide (x≤z)=true:=fun x y z h1 h2=>by simp at *;omega
 have hc:∀ x y:Int,(decide (x≤y)||decide (y≤x))=true:=fun x y=>by simp;omega
 refine List.Perm.eq_of_pairwise (le:=fun x y=>decide (x≤y)=true) (fun x y _ _ h1 h2=>by simp at h1 h2;omega) (List.pairwise_mergeSort ht hc a) (List.pairwise_mergeSort ht hc b) ?_
 exact (jG a _).trans (h.trans (jG b _).symm)
theorem WC {kv:List Int} {seen:List Nat} (oR:seen.Nodup) (eK:∀ i,i∈seen↔i<kv.length):(na kv seen).Perm kv:=by
 have h1:seen.Perm (List.range kv.length):=(List.perm_ext_iff_of_nodup oR List.nodup_range).2 fun i=>by rw [eK,cu]
 have h2:=h1.map fun j=>kv.getD j 0
 have h3:(List.range kv.length).map (fun j=>kv.getD j 0)=kv:=by
  apply List.ext_getElem (by simp)
  intro i h4 h5
  simp [List.getD,h5]
 rw [h3] at h2
 exact h2
theorem WG {b sz:Nat} {l l':List ae} (h:l.length=l'.length):i_ b sz l=i_ b sz l':=by
 cases l with
 | nil=>cases l' with
  | nil=>rfl
  | cons x l'=>simp at h
 | cons y l=>cases l' with
  | nil=>simp at h
  | cons x l'=>simp only [Z5];rw [show l.length=l'.length by simpa using h]
theorem V3 (kv:List Int) (vs:List ae) (mg:bx 0 vs) (hl:kv.length<100000000) :
  aq Tryz.prog (.fn 209 [] []) [.fn 226 [] [.ptr 0 0]] [some (.var [.pm (ints kv) vs])]
   (fun r σ'=>r=i_ 3 1 (ints (fW kv))∧σ'=[some (.var [.pm (ints kv) vs]),none,none,eV (ints (fW kv))]):=by
 refine aq.begin (rs:=[.tmp 2]) (m:=8) 1000 Tryz.func209 rfl rfl rfl rfl rfl ?_
 simp only [go_sem]
 refine (Zvb kv vs mg hl).mono ?_
 rintro r σ' ⟨seen,oR,eK,rfl,rfl⟩
 have Eu:=WC oR eK
 rw [← Zzk Eu]
 have Vh:=Eu.length_eq
 generalize na kv seen=L at *
 have ki:∀ K:ae→ai→Prop,K (.dz []) [some (.var [.pm (ints kv) vs]),none,none,eV (ints (fW L))]→aq Tryz.prog (.fn 225 [] []) [i_ 3 1 (ints L)] [some (.var [.pm (ints kv) vs]),none,none,eV (ints L)] K:=fun K hK=>by
  cases L with
  | nil =>
   rw [show ints []=[] from rfl,uD,tz]
   refine aq.AH Tryz.func225 rfl rfl (fun a cap w=>Tryz.slices_Sort_int_none a cap w) ?_
   rw [show fW []=[] from aY (DN []),show ints []=[] from rfl,tz] at hK
   exact hK
  | cons v L =>
   have eg:ints (v :: L)≠[]:=by simp [ints]
   have MZ:ints (fW (v :: L))≠[]:=by
    intro e
    have:=congrArg List.length e
    rw [lH,DN] at this;simp at this
   rw [Ck eg,Bg eg,lH]
   rw [Bg MZ] at hK
   exact aq.AJ (zs:=v :: L) (ts:=fW (v :: L)) Tryz.func225 rfl rfl rfl (DN _) (fun w cd off cap hH hb=>Tryz.slices_Sort_int cd off cap _ w hH hb (by omega)) (fun a cap w=>Tryz.slices_Sort_int_none a cap w) hK
 refine aK.go 1000 ?_
 simp only [go_sem]
 refine ki _ ?_
 refine aK.go 1000 ?_
 simp only [go_sem]
 rw [fL,WG (l':=ints (fW L)) (by rw [lH,lH,DN])]
 exact ⟨[some (.var [.pm (ints kv) vs]),none,none,eV (ints (fW L))],by simp [go_sem],by simp,⟨⟨⟨du _,il (av _) mg⟩,trivial⟩,trivial,trivial,zM _ (du _),trivial⟩,Be (show 3<4 by decide) 1 _,rfl,rfl⟩
end Go.Proofs
namespace Go.c8
open Go
section
variable {P:Program} {lo:Ctx} {Q:b9→St→Prop} {tm:List ae} {σ:ai} {q:Nat} {ks vs:List ae} {fz:Bool}
theorem OJ {X:Nat→Nat→Prop} {base mb:Nat} {D:List Deferred} {β:Env} {a:Act} {w:World} (hb:bG σ q=some (.map ks vs fz)) (h3:Rel X base mb D ⟨tm,σ⟩ β a w):Rel X base mb D ⟨tm.map (pz q ks vs),σ.set q none⟩ β a w:=by
 refine ⟨h3.s.less (fun c x hc=>(D7 hc).2) bg,by simpa using h3.n,fun k hk=>?_,h3.d⟩
 simp only [ak] at hk
 have:=LC h3.s (jU hb) (h3.t k hk)
 simpa [dj,hk] using this
theorem O4 {n:Nat} {β β':Env} {w w':World} {σ':ai} (g3:Ext n (σ.set q none) β w σ' β' w'):Ext n σ β w σ' β' w' :=
 ⟨g3.os,g3.tape,g3.output,g3.size,fun g o v hc hn=>g3.cell g o v hc (fun hm=>hn (zS hm)),fun g hg hn=>g3.block g hg (fun o hm=>hn o (zS hm)),fun g o hm=>(g3.iB g o hm).imp zS id,g3.env⟩
theorem aK.Ac {all:Array Oper} {l:List Oper} {k:List KI} (hb:bG σ q=some (.map ks vs fz)) (he:aK P lo Q (.ops all l :: k) .normal ⟨tm.map (pz q ks vs),σ.set q none⟩):aK P lo Q (.ops all l :: k) .normal ⟨tm,σ⟩:=by
 simp only [aK] at he ⊢
 refine fun hs=>?_
 intro X base mb D β a w b k cs h1 h2 h3
 obtain ⟨e1,kb,eO,a1,w1,q,g1,g2,g3,g4⟩:=(he hs) X base mb D β a w b k cs (by simpa using h1) h2 (OJ hb h3)
 exact ⟨e1,kb,eO,a1,w1,q,g1,g2,O4 g3,g4⟩
end
section
variable {q:Nat} {ks vs:List ae}
@[go_sem] theorem Yz4 {b o:Nat}:pz q ks vs (.ptr b o) = .ptr b o:=rfl
@[go_sem] theorem Xds {b o n s:Nat}:pz q ks vs (.os b o n s) = .os b o n s:=rfl
@[go_sem] theorem Yvi:pz q ks vs .undef = .undef:=rfl
@[go_sem] theorem Yyv {b:Bool}:pz q ks vs (.bool b) = .bool b:=rfl
@[go_sem] theorem Yzb {k:IntKind} {n:Int}:pz q ks vs (.int k n) = .int k n:=rfl
@[go_sem] theorem Xc1 {s:Nat} {l:List ae}:pz q ks vs (.ps s l) = .ps s l:=rfl
@[go_sem] theorem Yyj:pz q ks vs .aU = .aU:=rfl
@[go_sem] theorem Xab {l:List ae}:pz q ks vs (.agg l) = .agg l:=rfl
@[go_sem] theorem Yzd {l:List ae}:pz q ks vs (.dz l) = .dz l:=rfl
@[go_sem] theorem Yz5:pz q ks vs (.map q) = .pm ks vs:=if_pos rfl
@[go_sem] theorem Xat {g:FuncId} {a c:List ae}:pz q ks vs (.fn g a c) = .fn g a c:=rfl
end
theorem aq.l9 {P:Program} {F:Frame→List Frame→Sem Next→World→Value→World→Prop} {f f':ae} {args args':List ae} {K K':ae→ai→Prop} {Z σ:ai} (ι:Nat→Nat) (ta:∀ b b',b<Z.length→b'<Z.length→ι b = ι b'→b=b') (hb:∀ b,b<Z.length→ι b < σ.length)
  (vA:∀ b,b<Z.length→∃ o,Z[b]? = some o∧σ[ι b]? = some (o.map (dE ι))) (hf:f.low Z.length) (nS:dG ι f=f') (ha:bx Z.length args) (ha':dU ι args=args') (hs:bt Z.length Z)
  (h:dp P F f args Z K') (hk:∀ r Z',K' r Z'→Z.length≤Z'.length∧bt Z'.length Z'∧r.low Z'.length∧K (dG (mY ι Z.length σ.length) r) (jJ ι Z.length Z' σ)):dp P F f' args' σ K:=by
 have:=aq.xI (K:=K) ι ta hb vA hf ha hs (h.mono hk)
 rwa [nS,ha'] at this
section
variable {P:Program} {lo:Ctx} {Q:b9→St→Prop} {tm:List ae} {σ:ai} {q b:Nat} {ks vs cs:List ae} {fz:Bool} {X:Nat→Nat→Prop} {base:Nat} {β:Env} {w:World}
theorem cC.Du (hr:cC X base σ β w) {b:Nat} {x y:bE} (hb:bG σ b=some x) (hm:∀ L o,y.mut L o↔x.mut L o) (j9:∀ L,β b=some L→fR w (MT X σ β) β L x→fR w (MT X σ β) β L y):cC X base (bZ σ b y) β w:=by
 have m0:=jU hb
 have bD:b < σ.length:=(aI.1 m0).1
 have hO:bZ σ b y = σ.set b (some y):=by unfold bZ;rw [if_pos bD]
 have hM:MT X (bZ σ b y) β=MT X σ β:=funext fun g=>funext fun o=>propext (by unfold MT;rw [zE hb hm])
 have eE:∀ c z,(bZ σ b y)[c]? = some (some z)→(c=b∧z=y)∨σ[c]? = some (some z):=fun c z h=>by
  rw [hO,dR] at h
  split at h
  ·rename_i e;subst e;cases h;exact .inl ⟨rfl,rfl⟩
  ·exact .inr h
 have uc:∀ c z,(bZ σ b y)[c]? = some (some z)→∃ z',σ[c]? = some (some z'):=fun c z h=>by
  rcases eE c z h with ⟨rfl,rfl⟩ | h
  ·exact ⟨x,m0⟩
  ·exact ⟨z,h⟩
 refine ⟨fun c hc=>hr.nA c (by rw [DI hb] at hc;exact hc),fun c z hc=>?_,fun c c' z z' L L' h1 h2 h3 h4 h5=>?_,hr.size,hr.pW,hr.gl⟩
 ·rw [hM]
  rcases eE c z hc with ⟨rfl,rfl⟩ | h
  ·obtain ⟨L,q1,q2,q3,q4⟩:=hr.cd c x m0
   exact ⟨L,q1,q2,q3,j9 L q1 q4⟩
  ·exact hr.cd c z h
 ·obtain ⟨u,hu⟩:=uc c z h1
  obtain ⟨u',uI⟩:=uc c' z' h2
  exact hr.inj c c' u u' L L' hu uI h3 h4 h5
theorem Yjp {mb:Nat} {D:List Deferred} {a:Act} (hq:bG σ q=some (.map ks vs fz)) (hb:bG σ b=some (.var cs)) (eg:b≠q) (h3:Rel X base mb D ⟨tm,σ⟩ β a w) :
  Rel X base mb D ⟨tm.map (pz q ks vs),bZ (σ.set q none) b (.var (cs.map (pz q ks vs)))⟩ β a w:=by
 have h1:=OJ hq h3
 have qA:bG (σ.set q none) b=some (.var cs):=by rw [bG,bL (fun e=>eg e.symm)];exact hb
 have hm:∀ L o,(bE.var (cs.map (pz q ks vs))).mut L o↔(bE.var cs).mut L o:=fun L o=>by simp [bE.mut]
 have hM:MT X (bZ (σ.set q none) b (.var (cs.map (pz q ks vs)))) β=MT X (σ.set q none) β:=funext fun g=>funext fun o=>propext (by unfold MT;rw [zE qA hm])
 refine ⟨cC.Du h1.s qA hm fun L hL j9=>?_,h1.n,fun k hk=>by rw [hM];exact h1.t k hk,h1.d⟩
 obtain ⟨c,e,k1,k2,k3,k4⟩:=j9
 refine ⟨c,e,k1,k2,by simpa using k3,fun k hk=>?_⟩
 simp only [ak] at hk
 have k5:=k4 k hk
 have hg:(cs.map (pz q ks vs)).getD k .undef=pz q ks vs (cs.getD k .undef):=by simp [List.getD,hk]
 rw [hg]
 generalize cs.getD k .undef=x at k5
 generalize c.getD k undef=vv at k5
 cases x with
 | map c' =>
  refine LC h3.s (jU hq) ?_
  cases k5 with
  | map hh=>exact .map hh
 | _=>exact k5
theorem Ymd {n:Nat} {β':Env} {w':World} {σ':ai} (hb:bG σ b=some (.var cs)) (eg:b≠q) (g3:Ext n (bZ (σ.set q none) b (.var (cs.map (pz q ks vs)))) β w σ' β' w'):Ext n σ β w σ' β' w':=by
 have qA:bG (σ.set q none) b=some (.var cs):=by rw [bG,bL (fun e=>eg e.symm)];exact hb
 exact O4 (Ext.um qA (fun L o=>by simp [bE.mut]) g3)
theorem aK.FP {all:Array Oper} {l:List Oper} {k:List KI} (hq:bG σ q=some (.map ks vs fz)) (hb:bG σ b=some (.var cs)) (eg:b≠q)
  (he:aK P lo Q (.ops all l :: k) .normal ⟨tm.map (pz q ks vs),bZ (σ.set q none) b (.var (cs.map (pz q ks vs)))⟩):aK P lo Q (.ops all l :: k) .normal ⟨tm,σ⟩:=by
 have qA:bG (σ.set q none) b=some (.var cs):=by rw [bG,bL (fun e=>eg e.symm)];exact hb
 simp only [aK] at he ⊢
 refine fun hs=>?_
 intro X base mb D β a w b k cs h1 h2 h3
 obtain ⟨e1,kb,eO,a1,w1,q,g1,g2,g3,g4⟩:=(he hs) X base mb D β a w b k cs (by simp only;rw [DI qA];simpa using h1) h2 (Yjp hq hb eg h3)
 exact ⟨e1,kb,eO,a1,w1,q,g1,g2,Ymd hb eg g3,g4⟩
end
end Go.c8
namespace Go.Proofs
open Go Go.c8
attribute [local go_sem] Nat.reduceAdd Nat.reduceSub Nat.reduceMul Nat.reduceLeDiff Nat.reduceEqDiff Nat.reduceBEq Nat.reduceLT Nat.le_refl Int.natCast_zero Nat.sub_zero List.length_map Int.toNat_natCast Int.natCast_one Int.reduceEq Int.reduceLT Int.reduceLE Int.reduceNe Int.sub_zero Int.zero_add Int.toNat_one
def iC (l:List Tm):Bool:=l.any fun t=>!decide (t.check=0)
theorem Wn (t:Tm) (ht:t.size<99999999) (σ:ai) (hs:bt σ.length σ):aq Tryz.prog (.fn 145 [] []) [t.aO] σ (fun r σ'=>r = .bool (!decide (t.check=0))∧σ' = σ):=by
 have h:aJ Tryz.prog 145 [t.aO] (.bool (!decide (t.check=0))):=by
  refine aJ.begin (rs:=[.tmp 2]) (m:=5) 1000 Tryz.func145 rfl rfl rfl (by decide) trivial ?_
  have rq:=B8 t (by omega)
  simp only [go_sem,ft]
  refine aq.bU [] (rq) (by (try simp only [dc]);exact cE _ _ _) (by simp [go_sem,dC,bQ]) ?_;simp only [bO,bX,bW,if_true];refine aK.go 1000 ?_
  by_cases h:t.check=0
  ·simp only [go_sem,h]
  ·simp only [go_sem,h]
 refine aq.bU [] h (cE _ _ _) (by simp [go_sem,dC]) ?_
 rw [jb];simp only [ite_self]
 exact ⟨trivial,trivial⟩
theorem J8 (l:List Tm) (hl:l.length<99999999) (ht:∀ t∈l,t.size<99999999):aJ Tryz.prog 112 [.ps 2 (l.map Tm.aO)] (.bool (iC l)):=by
 refine aJ.begin (rs:=[.tmp 2]) (m:=4) 1000 Tryz.func112 rfl rfl rfl (by decide) trivial ?_
 simp only [go_sem]
 refine (JA [] (.fn 145 [] []) (fun t=>!decide (t.check=0)) l (by omega) trivial ⟨trivial,trivial⟩ (fun i h=>Wn _ (ht _ (aE h)) [] trivial)).mono ?_
 rintro r σ' ⟨rfl,rfl⟩
 refine aK.go 1000 ?_
 simp only [go_sem,iC]
def yP (s:List (Tm×Tm)):Prop:=∀ x∈s,x.1.fit∧x.2.fit∧x.2.size<99999999
def BP (m:List Bd):Prop:=∀ b∈m,0≤b.v∧b.v≤9223372036854775807∧b.t.fit∧b.t.size<99999999
theorem Xz {x:Tm×Tm} {r:List (Tm×Tm)} (h:yP (x :: r)):yP ((x.1.args.zip x.2.args).reverse++r):=by
 intro y hy
 obtain ⟨h1,h2,h3⟩:=h x (by simp)
 rcases aW.1 hy with hy | hy
 ·have hy:=cO.1 hy
  have a1:=sT (cW hy).2
  have a2:=ov x.2
  exact ⟨wA (xg h1) _ (cW hy).1,wA (xg h2) _ (cW hy).2,by omega⟩
 ·exact h y (by simp [hy])
theorem Ph:∀ (s:List (Tm×Tm)) (m m':List Bd),fh s m=some m'→yP s→BP m→(m.map Bd.v).Nodup→BP m'∧(m'.map Bd.v).Nodup∧m'.length≤m.length+lq s:=by
 intro s m
 induction s,m using fh.induct with
 | case1 m =>
  intro m' h h1 h2 h3
  rw [fh] at h
  cases h
  exact ⟨h2,h3,by simp [lq]⟩
 | case2 x r m hv c hf he ih =>
  intro m' h h1 h2 h3
  rw [fh,if_pos hv,hf] at h
  simp only [if_pos he] at h
  obtain ⟨a1,a2,a3⟩:=ih m' h (fun y hy=>h1 y (by simp [hy])) h2 h3
  exact ⟨a1,a2,by simp only [lq];omega⟩
 | case3 x r m hv c hf he =>
  intro m' h
  rw [fh,if_pos hv,hf] at h
  simp only [if_neg he] at h
  cases h
 | case4 x r m hv hf ih =>
  intro m' h h1 h2 h3
  rw [fh,if_pos hv,hf] at h
  simp only at h
  obtain ⟨b1,b2,b3⟩:=h1 x (by simp)
  have Ej:=E7 b1
  unfold n5 at Ej
  have hp:=zF x.1
  obtain ⟨a1,a2,a3⟩:=ih m' h (fun y hy=>h1 y (by simp [hy])) (fun b hb=>by
   rcases aW.1 hb with hb | hb
   ·exact h2 b hb
   ·rw [aN.1 hb];exact ⟨hv,by simp only;omega,b2,b3⟩) (by
   rw [cL,gD]
   refine ⟨h3,by simp,fun u hu w hw=>?_⟩
   simp only [aF,aS,aN] at hw
   subst hw
   obtain ⟨b,hb,rfl⟩:=cn.1 hu
   intro e
   exact absurd (by simpa using e) (j_.1 hf b hb))
  refine ⟨a1,a2,?_⟩
  simp only [lq,ay,ax,aR] at a3 ⊢;omega
 | case5 x r m hv hc =>
  intro m' h
  rw [fh,if_neg hv,if_pos hc] at h
  cases h
 | case6 x r m hv hc ih =>
  intro m' h h1 h2 h3
  rw [fh,if_neg hv,if_neg hc] at h
  obtain ⟨a1,a2,a3⟩:=ih m' h (Xz h1) h2 h3
  have:=Fa x.1 x.2 r
  exact ⟨a1,a2,by simp only [lq];omega⟩
theorem Yjf {a b:List Tm} (Bq:Tm.fits a) (zf:Tm.fits b) (s0:Tm.bF b<99999999):yP (a.zip b).reverse:=fun x hx=>by
 have hx:=cO.1 hx
 have:=sT (cW hx).2
 exact ⟨wA Bq _ (cW hx).1,wA zf _ (cW hx).2,by omega⟩
theorem Ykd (σ:ai) (b sz:Nat) (l:List ae):ng .slice σ (i_ b sz l)=some l.length:=by
 cases l<;>rfl
theorem Ztc (bs:List Bd) (v:Int) (z:ae):eM (fj bs) (fO bs) z (.int .i64 v) false=match bs.find? (fun b=>b.v==v) with | some b=>b.t.aO | none=>z:=by
 have h:=EX v bs 0
 unfold eM
 cases hk:eY (.int .i64 v) (fj bs) 0 with
 | some i =>
  rw [hk] at h
  obtain ⟨_,b,h2,h3⟩:=h
  rw [h3]
  simp only [a8,if_false,fO,List.getD,cb]
  rw [gG] at h2
  rw [h2];rfl
 | none =>
  rw [hk] at h
  rw [show bs.find? (fun b=>b.v==v)=none from h];rfl
def iU (m:List Bd) (ks:List Int):List Bd:=ks.filterMap fun v=>match m.find? (fun c=>c.v==v) with | some c=>if c.t.head = -1 - v then none else some ⟨v,c.t⟩ | none=>none
def gH (a b:List Tm):List Bd×Bool×Int :=
 if a.length≠b.length∨iC a=true∨iC b=true then ([],false,1) else
  match fh (a.zip b).reverse [] with
  | none=>([],false,0)
  | some m=>(iU m (fW (m.map Bd.v)),true,0)
theorem Z2 (kv:List Int) (vs:List ae) (mg:bx 0 vs) (σ:ai) (hs:bt σ.length σ):aq Tryz.prog (.fn 210 [] []) [.pm (ints kv) vs] σ
  (fun r σ'=>r = .fn 226 [] [.ptr σ.length 0]∧σ' = σ++[some (.var [.pm (ints kv) vs])]):=by
 refine aq.begin (rs:=[.tmp 2]) (m:=3) 1000 Tryz.func210 rfl rfl rfl rfl rfl ?_
 simp only [go_sem]
 rw [Ba,fL]
 exact ⟨_,fx _,by simp,o8 (nx (by simp) hs) ⟨⟨⟨du _,il (av _) mg⟩,trivial⟩,trivial⟩,by simp [go_sem],rfl,rfl⟩
theorem Sm (m:List Bd):fj m=ints (m.map Bd.v):=by simp [fj,ints]
theorem Yp3 (a b:List Tm) (eg:a≠[]) (hs:Tm.bF a<99999999) (s0:Tm.bF b<99999999) (Bq:Tm.fits a) (zf:Tm.fits b) :
  aJ Tryz.prog 188 [.ps 2 (a.map Tm.aO), .ps 2 (b.map Tm.aO)] (.dz [.ps 3 (nP (gH a b).1), .bool (gH a b).2.1, .int .i64 (gH a b).2.2]):=by
 refine aJ.begin (rs:=[.tmp 4, .tmp 5, .tmp 6]) (m:=53) 1000 Tryz.func188 rfl rfl rfl (by decide) (by simp [go_sem]) ?_
 have me:=p5 a
 have vT:=p5 b
 have hwa:=J8 a (by omega) (fun t ht=>by have:=sT ht;omega)
 have Vv:=J8 b (by omega) (fun t ht=>by have:=sT ht;omega)
 by_cases h1:a.length=b.length
 ·have nB:(a.length:Int)=b.length:=by omega
  simp only [go_sem,ak,nB]
  refine aq.bU [] (hwa) (cE _ _ _) (by simp [go_sem,bQ]) ?_;simp only [bO,bX,bW,if_true];refine aK.go 1000 ?_
  cases h2:iC a with
  | true =>
   have hm:gH a b=([],false,1):=by unfold gH;rw [if_pos (.inr (.inl h2))]
   rw [hm]
   simp only [go_sem,show nP []=[] from rfl]
  | false =>
   simp only [go_sem]
   refine aq.bU [] (Vv) (cE _ _ _) (by simp [go_sem,bQ]) ?_;simp only [bO,bX,bW,if_true];refine aK.go 1000 ?_
   cases h3:iC b with
   | true =>
    have hm:gH a b=([],false,1):=by unfold gH;rw [if_pos (.inr (.inr h3))]
    rw [hm]
    simp only [go_sem,show nP []=[] from rfl]
   | false =>
    have hm:gH a b=match fh (a.zip b).reverse [] with | none=>([],false,0) | some m=>(iU m (fW (m.map Bd.v)),true,0):=by
     unfold gH;rw [if_neg (by simp [h1,h2,h3])]
    rw [hm]
    simp only [go_sem]
    refine (W8 _ a b rfl eg h1 hs s0 Bq zf).mono ?_
    cases hg:fh (a.zip b).reverse [] with
    | none =>
     intro r σ' hr
     obtain rfl:r = .bool false:=hr
     refine aK.go 1000 ?_
     simp only [go_sem,show nP []=[] from rfl]
    | some m =>
     rintro r σ' ⟨rfl,rfl⟩
     refine aK.Ac (q:=0) (ks:=fj m) (vs:=fO m) (fz:=false) rfl ?_
     refine aK.go 1000 ?_
     simp only [go_sem,aF,aS]
     rw [Sm]
     refine (Z2 _ _ (iD m).2 [none] ⟨trivial,trivial⟩).mono ?_
     rintro r σ' ⟨rfl,rfl⟩
     refine aK.go 1000 ?_
     simp only [go_sem]
     obtain ⟨j9,oR,Gw⟩:=Ph _ _ _ hg (Yjf Bq zf s0) (fun b hb=>by cases hb) (by simp)
     have hzl:=Iv a b
     rw [Il,aR] at Gw
     have hml:(m.map Bd.v).length<100000000:=by rw [ak];omega
     have C5:∀ v∈fW (m.map Bd.v), ∃ c,m.find? (fun c=>c.v==v)=some c∧c.v=v∧c∈m:=fun v hv=>by
      have hv:=(jG _ _).mem_iff.1 hv
      obtain ⟨c,hc,rfl⟩:=cn.1 hv
      cases hf:m.find? (fun d=>d.v==c.v) with
      | none=>exact absurd (by simp) (j_.1 hf c hc)
      | some d=>exact ⟨d,rfl,by simpa using gB hf,bI hf⟩
     have hso:=V3 (m.map Bd.v) (fO m) (iD m).2 hml
     generalize hkv:m.map Bd.v=kv at *
     refine aq.xI (f:=.fn 209 [] []) (args:=[.fn 226 [] [.ptr 0 0]]) (Z:=[some (.var [.pm (ints kv) (fO m)])]) (fun b=>b+1) (fun b b' h1 h2 e=>by omega) (fun b hb=>by simp at hb;subst hb;simp) (fun b hb=>?_) ⟨trivial,trivial⟩ ⟨⟨trivial,⟨Nat.zero_lt_succ 0,trivial⟩⟩,trivial⟩ ⟨⟨⟨du _,(iD m).2⟩,trivial⟩,trivial⟩ (hso.mono ?_)
     ·simp at hb;subst hb
      refine ⟨_,rfl,?_⟩
      simp [dE,dU,dG,cD (du _),cD (iD m).2]
     rintro r σ' ⟨rfl,rfl⟩
     refine ⟨by simp,⟨⟨⟨du _,il (av _) (iD m).2⟩,trivial⟩,trivial,trivial,zM _ (du _),trivial⟩,Be (show 3<4 by decide) 1 _,?_⟩
     simp only [go_sem,jJ,e9,mY,aF,aS]
     rw [cD (du _),cD (iD m).2]
     have yn:Option.map (dE (mY (fun b=>b+1) 1 2)) (eV (ints (fW kv)))=eV (ints (fW kv)):=by
      cases hq:ints (fW kv) with
      | nil=>rfl
      | cons x l =>
       have wP:bx 0 (ints (fW kv)):=du _
       rw [TG,bu,w_,← hq,cD wP]
     rw [yn]
     refine aK.go 1000 ?_
     simp only [go_sem,Ykd,lH]
     obtain ⟨K,hK⟩:∃ K,fW kv=K:=⟨_,rfl⟩
     have hKl:K.length=kv.length:=by rw [← hK,DN]
     rw [hK] at C5 ⊢
     refine aK.h_ (ι:={q:Nat×List Bd // q.1≤K.length∧q.2++iU m (K.drop q.1)=iU m K∧q.2.length≤q.1}) 1000
      (fun q=>fG 55 [(4, .aU),(5, .bool false),(6, .int .i64 0),(7, .pm (ints kv) (fO m)),(8,i_ 5 3 (nP q.1.2)),(32,i_ 4 1 (ints K)),(33, .int .i64 K.length),(34, .int .i64 q.1.1)])
      (fun q=>[none,none,none,none,eV (ints K),eV (nP q.1.2)]) (fun q=>K.length - q.1.1) ⟨(0,[]),by simp⟩ [] ?_ (fun _=>av _) ?_
     ·refine iP rfl ?_
      simp only [go_sem,show nP []=[] from rfl,uD,tz,(iD m).2,il (av 6) (iD m).2,du,cD (iD m).2,cD (du _)]
     ·rintro ⟨⟨i,L⟩,hi,aP,Af⟩
      simp only at hi aP Af
      by_cases bD:(i:Int)<K.length
      ·have aZ:i<K.length:=by omega
       have hw:IntKind.i64.wrap ((i:Int)+1)=((i+1:Nat):Int):=by rw [ek (by omega)];omega
       have Av:ints K≠[]:=by intro e;have:=congrArg List.length e;rw [lH] at this;simp at this;rw [this] at aZ;simp at aZ
       have Gd:=xd aZ
       obtain ⟨c,rm,kY,Ai⟩:=C5 _ (aE aZ)
       rw [ao aZ] at aP
       obtain ⟨v,hv⟩:∃ v,K[i]=v:=⟨_,rfl⟩
       rw [hv] at Gd rm kY aP
       obtain ⟨o1,o2,o3,o4⟩:=j9 c Ai
       have s_:IntKind.i64.wrap (-1 - v) = -1 - v:=ek (by omega)
       have oP:=Ztc m v (.agg [.int .i64 0, .aU])
       rw [rm] at oP
       simp only at oP
       have sE:=yZ m v
       rw [Sm,hkv] at oP sE
       by_cases qF:c.t.head = -1 - v
       ·have Nq:iU m (v :: K.drop (i+1))=iU m (K.drop (i+1)):=by simp [iU,rm,qF]
        rw [Nq] at aP
        simp only [go_sem,bD,Ck Av,Bg Av,lH,Gd,sE,oP,dc,s_,qF,hw]
        refine ⟨by omega,aZ,⟨(i+1,L),by simp only;omega,aP,by simp only;omega⟩,[],iP rfl ?_,by simp only;omega⟩
        simp only [go_sem,(iD m).2,il (av 6) (iD m).2,du,cD (iD m).2,cD (du _),Ea,Hz (of_eq_true (Ea L))]
       ·have Nq:iU m (v :: K.drop (i+1))=⟨v,c.t⟩ :: iU m (K.drop (i+1)):=by simp [iU,rm,qF]
        rw [Nq] at aP
        simp only [go_sem,bD,Ck Av,Bg Av,lH,Gd,sE,oP,dc,s_,qF,hw]
        have h5:bG [none,none,none,none,some (bE.row (ints K) 0),eV (nP L),some (bE.row [.agg [.int .i64 v, .int .i64 c.t.head, .ps 2 (c.t.args.map Tm.aO)]] 0)] 5=eV (nP L):=rfl
        have nD:eI ⟨3,true,40,[.int .i64 0, .int .i64 0, .aU], .struct⟩ [.agg [.int .i64 v, .int .i64 c.t.head, .ps 2 (c.t.args.map Tm.aO)]]:=⟨fun y hy=>by rw [aN.1 hy];exact ⟨rfl,rfl⟩,by decide,by decide,rfl⟩
        refine ⟨by omega,aZ,?_⟩
        simp only [go_sem,uO h5,nD,Bf,hw]
        refine ⟨by omega,⟨(i+1,L++[⟨v,c.t⟩]),by simp only;omega,by rw [← aP,cG];rfl,by simp only [ay,ax,aR];omega⟩,[(5,7),(7,5)],iP rfl ?_,by simp only;omega⟩
        dsimp only
        have hba:nP (L++[⟨v,c.t⟩])=nP L++[.agg [.int .i64 v, .int .i64 c.t.head, .ps 2 (c.t.args.map Tm.aO)]]:=by simp [nP,Bd.aO]
        have lw:bx 0 (nP (L++[⟨v,c.t⟩])):=of_eq_true (Ea _)
        rw [hba] at lw ⊢
        rw [Fg,E6]
        simp only [go_sem,(iD m).2,il (av 6) (iD m).2,du,cD (iD m).2,cD (du _),cD lw,il (av 6) lw,Bf]
      ·have dP:i=K.length:=by omega
       subst dP
       rw [aV] at aP
       simp only [go_sem,bD]
       refine aK.go 1000 ?_
       simp only [go_sem]
       rw [← aP,show iU m []=[] from rfl,bn]
       rw [rQ rfl rfl];trivial
 ·have nB:¬ (a.length:Int)=b.length:=by omega
  have hm:gH a b=([],false,1):=by unfold gH;rw [if_pos (.inl h1)]
  rw [hm]
  simp only [go_sem,ak,nB,show nP []=[] from rfl]
theorem Xv (a b:Tm) (ha:a.size<99999999) (hb:b.size<99999999) (Bq:a.fit) (zf:b.fit) :
  aJ Tryz.prog 169 [a.aO,b.aO] (.dz [.ps 3 (nP (gH [a] [b]).1), .bool (gH [a] [b]).2.1, .int .i64 (gH [a] [b]).2.2]):=by
 refine aJ.begin (rs:=[.tmp 4, .tmp 5, .tmp 6]) (m:=13) 1000 Tryz.func169 rfl rfl rfl (by decide) (by simp [go_sem]) ?_
 have eK:=Yp3 [a] [b] (by simp) (by simpa [Tm.bF] using ha) (by simpa [Tm.bF] using hb) ⟨Bq,trivial⟩ ⟨zf,trivial⟩
 generalize gH [a] [b]=z at *
 simp only [go_sem,ft]
 refine aq.bU [2,3] eK ?_ (by simp [go_sem,dC]) ?_
 ·simp only [go_sem,dc,aF,aS]
 generalize bO _=fl
 cases fl
 ·simp only [a8,if_false]
  refine aK.go 1000 ?_
  simp only [go_sem]
 ·simp only [if_true]
  refine aK.go 1000 ?_
  simp only [go_sem]
structure mP where
 i:Int
 rt:Bool
 p:List Int
 t:Tm
def mP.aO (s:mP):ae:=.agg [.int .i64 s.i, .bool s.rt, .ps 1 (ints s.p), .int .i64 s.t.head, .ps 2 (s.t.args.map Tm.aO)]
theorem Ko (s:mP):s.aO.cells=[.int .i64 s.i, .bool s.rt, .ps 1 (ints s.p), .int .i64 s.t.head, .ps 2 (s.t.args.map Tm.aO)]:=rfl
theorem Yqe {n:Nat} (s:mP):s.aO.low n:=⟨trivial,trivial,du _,trivial,bQ _,trivial⟩
def Li.side (l:Li) (rt:Bool):Tm:=if rt then l.r else l.l
def Li.sN (l:Li) (rt:Bool) (u:Tm):Li:=if rt then ⟨l.neg,l.l,u⟩ else ⟨l.neg,u,l.r⟩
def kO (c:List Li) (s:mP) (u:Tm):List Li:=match c[s.i.toNat]? with
 | some l=>c.set s.i.toNat (l.sN s.rt ((l.side s.rt).k_ s.p u))
 | none=>c
theorem Yo4 (c:List Li) (s:mP) (u v:Tm) (i:Nat) (h:i<c.length) (hi:s.i=i) (hv:(c[i].side s.rt).pf s.p=some v) (hl:c.length≤1000000) (hp:s.p.length≤1000000) (hs:(c[i].side s.rt).size≤1000000) :
  aJ Tryz.prog 142 [.ps 5 (lits c),s.aO,u.aO] (.ps 5 (lits (kO c s u))):=by
 refine aJ.begin (rs:=[.tmp 6]) (m:=43) 1000 Tryz.func142 rfl rfl rfl (by decide) (cr _) ?_
 have eg:c≠[]:=by intro e;subst e;simp at h
 have lU:=Yoq (c[i].side s.rt) s.p u v hp hs hv
 have lT:=tu h
 have hpc:kO c s u=c.set i (c[i].sN s.rt ((c[i].side s.rt).k_ s.p u)):=by
  unfold kO
  rw [hi,b_,aA h]
 rw [hpc]
 generalize c[i]=l at *
 simp only [go_sem,Ko,ft]
 refine aq.sI [] (Hs c eg (by omega)) (cE _ _ _) (by simp [go_sem,cr]) ?_
 rw [jb]
 simp only [zO,zQ,zU,w_,zW,up,cD (cr _)]
 refine aK.go 1000 ?_
 cases hr:s.rt with
 | true =>
  rw [hr] at lU
  simp only [go_sem,hi,fP,lT,ky]
  refine ⟨⟨by omega,by omega⟩,?_⟩
  refine aK.draw [.no, .no, .no, .no, .no, .no, .no, .no, .no, .no, .no,⟨none,[],[3]⟩, .no, .no,⟨none,[3],[]⟩] 4 4 mixed rfl rfl (by decide) ?_
  simp only [go_sem,dx,lT,ky,fP,h]
  refine ny lU (by simp only [Li.side,dc,if_true,a8,if_false];exact cE _ _ _) (by simp [go_sem,dC,du]) ?_
  generalize hy:(l.side true).k_ s.p u=y at *
  simp only [go_sem,ft,lT,ky,fP,h]
  have he:(lits c).set i (jh (cJ l.aO) [.bool l.neg, .int .i64 l.l.head, .ps 2 (l.l.args.map Tm.aO), .int .i64 y.head, .ps 2 (y.args.map Tm.aO)])=lits (c.set i (l.sN true y)):=by
   rw [show jh (cJ l.aO) [.bool l.neg, .int .i64 l.l.head, .ps 2 (l.l.args.map Tm.aO), .int .i64 y.head, .ps 2 (y.args.map Tm.aO)]=(l.sN true y).aO from rfl]
   simp [lits,List.map_set]
  rw [he]
  refine ⟨by omega,?_⟩
  refine aK.go 1000 ?_
  simp only [go_sem,fP,bg]
  rw [a_ (by rw [fP,bg];exact ah _)]
  exact cE _ _ _
 | false =>
  rw [hr] at lU
  simp only [go_sem,hi,fP,lT,ky]
  refine ⟨⟨by omega,by omega⟩,?_⟩
  refine aK.draw [.no, .no, .no, .no, .no, .no, .no, .no, .no, .no, .no,⟨none,[],[3]⟩, .no, .no,⟨none,[3],[]⟩] 4 4 mixed rfl rfl (by decide) ?_
  simp only [go_sem,dx,lT,ky,fP,h]
  refine ny lU (by simp only [Li.side,dc,if_true,a8,if_false];exact cE _ _ _) (by simp [go_sem,dC,du]) ?_
  generalize hy:(l.side false).k_ s.p u=y at *
  simp only [go_sem,ft,lT,ky,fP,h]
  have he:(lits c).set i (jh (cJ l.aO) [.bool l.neg, .int .i64 y.head, .ps 2 (y.args.map Tm.aO), .int .i64 l.r.head, .ps 2 (l.r.args.map Tm.aO)])=lits (c.set i (l.sN false y)):=by
   rw [show jh (cJ l.aO) [.bool l.neg, .int .i64 y.head, .ps 2 (y.args.map Tm.aO), .int .i64 l.r.head, .ps 2 (l.r.args.map Tm.aO)]=(l.sN false y).aO from rfl]
   simp [lits,List.map_set]
  rw [he]
  refine ⟨by omega,?_⟩
  refine aK.go 1000 ?_
  simp only [go_sem,fP,bg]
  rw [a_ (by rw [fP,bg];exact ah _)]
  exact cE _ _ _
def lb:List (Int×Int)→Int→Int→List (Int×Int)
 | [],k,s=>[(k,s)]
 | x :: r,k,s=>if x.1=k then (x.1,x.2+s) :: r else x :: lb r k s
def fA:List (Int×Int)→Int→Int
 | [],_=>0
 | x :: r,k=>if x.1=k then x.2 else fA r k
def j0 (l:List (Int×Int)):List ae:=ints (l.map Prod.fst)
def lJ (l:List (Int×Int)):List ae:=ints (l.map Prod.snd)
theorem ri {n:Nat} (l:List (Int×Int)):bx n (j0 l)∧bx n (lJ l):=⟨du _,du _⟩
theorem XQ (l:List (Int×Int)) (v:Int):(j0 l).all (sameKind (.int .i64 v))=true:=by simp [j0,ints,sameKind]
theorem HG (x:Int×Int) (r:List (Int×Int)):j0 (x :: r) = .int .i64 x.1 :: j0 r:=rfl
theorem HJ (x:Int×Int) (r:List (Int×Int)):lJ (x :: r) = .int .i64 x.2 :: lJ r:=rfl
theorem JZ (k:Int):∀ (l:List (Int×Int)) (n:Nat),(match eY (.int .i64 k) (j0 l) n with
  | some i=>n≤i∧(lJ l).getD (i - n) .undef = .int .i64 (fA l k)∧∀ s,((j0 l)=j0 (lb l k s)∧(lJ l).set (i - n) (.int .i64 (fA l k+s))=lJ (lb l k s))
  | none=>fA l k=0∧∀ s,j0 l++[.int .i64 k]=j0 (lb l k s)∧lJ l++[.int .i64 s]=lJ (lb l k s))
 | [],n=>⟨rfl,fun s=>⟨rfl,rfl⟩⟩
 | x :: r,n=>by
  have ih:=JZ k r (n+1)
  rw [HG,HJ]
  simp only [eY,fA,lb]
  by_cases c:x.1=k
  ·have hc:e8 (.int .i64 k) (.int .i64 x.1)=true:=by simp [e8,c]
   rw [hc,if_pos rfl]
   simp only [if_pos c]
   refine ⟨ah _,?_,fun s=>?_⟩
   ·simp [List.getD]
   ·rw [d_,HG,HJ];exact ⟨rfl,rfl⟩
  ·have hc:e8 (.int .i64 k) (.int .i64 x.1)=false:=by simp only [e8,beq_eq_false_iff_ne];exact fun e=>c e.symm
   rw [hc]
   simp only [a8,if_false,if_neg c]
   split at ih
   ·rename_i i _
    obtain ⟨h1,h2,h3⟩:=ih
    have hi:i - n=(i - (n+1))+1:=by omega
    refine ⟨by omega,?_,fun s=>?_⟩
    ·rw [hi,bB];exact h2
    ·obtain ⟨q1,q2⟩:=h3 s
     rw [hi,cZ,HG,HJ,← q1,← q2];exact ⟨rfl,rfl⟩
   ·obtain ⟨h1,h2⟩:=ih
    refine ⟨h1,fun s=>?_⟩
    obtain ⟨q1,q2⟩:=h2 s
    rw [HG,HJ,← q1,← q2];exact ⟨rfl,rfl⟩
theorem Ztv (l:List (Int×Int)) (k:Int):eM (j0 l) (lJ l) (.int .i64 0) (.int .i64 k) false = .int .i64 (fA l k):=by
 have h:=JZ k l 0
 unfold eM
 cases hk:eY (.int .i64 k) (j0 l) 0 with
 | some i=>rw [hk] at h;simpa using h.2.1
 | none=>rw [hk] at h;simp only [a8,if_false];rw [h.1]
theorem Zts (l:List (Int×Int)) (k s:Int):iK (j0 l) (lJ l) (.int .i64 k) (.int .i64 (fA l k+s))=(j0 (lb l k s),lJ (lb l k s)):=by
 have h:=JZ k l 0
 unfold iK
 cases hk:eY (.int .i64 k) (j0 l) 0 with
 | some i=>rw [hk] at h;obtain ⟨q1,q2⟩:=h.2.2 s;simp only;rw [← q1,← q2,gG]
 | none=>rw [hk] at h;obtain ⟨q1,q2⟩:=h.2 s;simp only;rw [h.1,Int.zero_add,q1,q2]
def nq (g:List Sy) (h:Int):Int:=((g[h.toNat]?).map Sy.weight).getD 0
mutual
def rI (g:List Sy) (s:Int):Tm→Int×List (Int×Int)→Int×List (Int×Int)
 | .mk h ts,x=>if h<0 then (x.1+s,lb x.2 h s) else ot g s ts (x.1+s*nq g h,x.2)
def ot (g:List Sy) (s:Int):List Tm→Int×List (Int×Int)→Int×List (Int×Int)
 | [],x=>x
 | t :: ts,x=>ot g s ts (rI g s t x)
end
mutual
def Tm.BL (g:List Sy):Tm→Prop
 | .mk h ts=>h<g.length∧Tm.yy g ts
def Tm.yy (g:List Sy):List Tm→Prop
 | []=>True
 | t :: ts=>t.BL g∧Tm.yy g ts
end
theorem Fb {g:List Sy} {t:Tm} (h:t.BL g):t.head<g.length:=by cases t;exact h.1
theorem Uo {g:List Sy} {t:Tm} (h:t.BL g):Tm.yy g t.args:=by cases t;exact h.2
theorem K6 {g:List Sy}:∀ {ts:List Tm},Tm.yy g ts→∀ t∈ts,t.BL g
 | x :: ts,h,t,ht=>by
  rcases aQ.1 ht with rfl | ht
  ·exact h.1
  ·exact K6 h.2 t ht
def qb (B:Int) (x:Int×List (Int×Int)):Prop:=-B≤x.1∧x.1≤B∧∀ y∈x.2, -B≤y.2∧y.2≤B
theorem HT {B C:Int} {x:Int×List (Int×Int)} (h:qb B x) (hc:B≤C):qb C x:=⟨by have:=h.1;omega,by have:=h.2.1;omega,fun y hy=>⟨by have:=(h.2.2 y hy).1;omega,by have:=(h.2.2 y hy).2;omega⟩⟩
theorem Oi {B s:Int} (h0 : 0≤B) (hs:s=1∨s = -1):∀ (l:List (Int×Int)) (k:Int),(∀ y∈l, -B≤y.2∧y.2≤B)→∀ y∈lb l k s, -(B+1)≤y.2∧y.2≤B+1
 | [],k,_,y,hy=>by rw [aN.1 hy];simp only;omega
 | x :: r,k,h,y,hy=>by
  have hx:=h x (by simp)
  simp only [lb] at hy
  split at hy
  ·rcases aQ.1 hy with rfl | hy
   ·simp only;omega
   ·have:=h y (by simp [hy]);omega
  ·rcases aQ.1 hy with rfl | hy
   ·omega
   ·exact Oi h0 hs r k (fun z hz=>h z (by simp [hz])) y hy
theorem Tx {B:Int} (h0 : 0≤B):∀ (l:List (Int×Int)) (k:Int),(∀ y∈l, -B≤y.2∧y.2≤B)→-B≤fA l k∧fA l k≤B
 | [],k,_=>by simp only [fA];omega
 | x :: r,k,h=>by
  simp only [fA]
  split
  ·exact h x (by simp)
  ·exact Tx h0 r k fun z hz=>h z (by simp [hz])
def sW (g:List Sy):Prop:=∀ s∈g, -1000000≤s.weight∧s.weight≤1000000
theorem OH {g:List Sy} (hg:sW g) (h:Int) : -1000000≤nq g h∧nq g h≤1000000:=by
 unfold nq
 cases hq:g[h.toNat]? with
 | none=>simp
 | some s=>exact hg s (lN hq)
mutual
theorem Iz {g:List Sy} (hg:sW g) {s:Int} (hs:s=1∨s = -1):∀ (t:Tm) (x:Int×List (Int×Int)) (B:Int),0≤B→qb B x→qb (B+1000000*t.size) (rI g s t x)
 | .mk h ts,x,B,h0,hx=>by
  rw [rI,Tm.size]
  have hw:=OH hg h
  split
  ·refine HT (B:=B+1) ⟨?_,?_,Oi h0 hs _ _ hx.2.2⟩ (by omega)
   ·have:=hx.1;simp only;omega
   ·have:=hx.2.1;simp only;omega
  ·have h1:qb (B+1000000) (x.1+s*nq g h,x.2):=by
    refine ⟨?_,?_,fun y hy=>by have:=hx.2.2 y hy;omega⟩
    ·have:=hx.1;rcases hs with rfl | rfl<;>simp only<;>omega
    ·have:=hx.2.1;rcases hs with rfl | rfl<;>simp only<;>omega
   exact HT (Ot hg hs ts _ _ (by omega) h1) (by omega)
theorem Ot {g:List Sy} (hg:sW g) {s:Int} (hs:s=1∨s = -1):∀ (ts:List Tm) (x:Int×List (Int×Int)) (B:Int),0≤B→qb B x→qb (B+1000000*Tm.bF ts) (ot g s ts x)
 | [],x,B,h0,hx=>by rw [ot];exact HT hx (by simp [Tm.bF])
 | t :: ts,x,B,h0,hx=>by
  rw [ot,Tm.bF]
  exact HT (Ot hg hs ts _ _ (by omega) (Iz hg hs t x B h0 hx)) (by omega)
end
def pP (x:Int×List (Int×Int)):ai:=[some (.map (j0 x.2) (lJ x.2) false),some (.var [.int .i64 x.1, .map 0])]
theorem PE (g:List Sy) (hg:sW g) (lT:g.length<1000000) (s:Int) (hs:s=1∨s = -1):∀ (n:Nat) (t:Tm) (x:Int×List (Int×Int)) (B:Int),t.size≤n→t.size<100000000→t.BL g→t.fit→0≤B→qb B x→B+1000000*t.size≤1000000000000000 →
  aq Tryz.prog (.fn 212 [] []) [.ptr 1 0, .ps 4 (syms g),t.aO, .int .i64 s] (pP x) (fun r σ'=>r = .dz []∧σ'=pP (rI g s t x))
 | 0,t,_,_,h,_,_,_,_,_,_=>by have:=ov t;omega
 | n+1,t,x,B,hn,fF,fp,hft,h0,hx,hB=>by
  unfold pP
  refine aq.begin (rs:=[]) (m:=54) 1000 Tryz.func212 rfl rfl rfl rfl rfl ?_
  have Ay:=ov t
  have me:=p5 t.args
  obtain ⟨x1,x2,x3⟩:=hx
  have hih:=Fb fp
  by_cases fN:t.head<0
  ·have qH:rI g s t x=(x.1+s,lb x.2 t.head s):=by cases t;rw [rI];exact if_pos fN
   have rG:IntKind.i64.wrap (x.1+s)=x.1+s:=ek (by rcases hs with rfl | rfl<;>omega)
   have iJ:=Tx h0 x.2 t.head x3
   have rH:IntKind.i64.wrap (fA x.2 t.head+s)=fA x.2 t.head+s:=ek (by rcases hs with rfl | rfl<;>omega)
   rw [qH]
   simp only [go_sem,ft,fN,rG]
   refine aK.draw [.no, .no, .no, .no, .no, .no, .no, .no, .no,⟨none,[0],[]⟩] 3 3 mixed rfl rfl (by decide) ?_
   simp only [go_sem,dx,XQ,Ztv,rH,Zts]
   refine aK.go 1000 ?_
   simp only [go_sem]
   rw [fL]
   exact ⟨pP (x.1+s,lb x.2 t.head s),by simp [pP,go_sem],by simp [pP],by simp [pP,go_sem,ri],trivial,rfl,rfl⟩
  ·simp only [go_sem,ft,fN]
   have Va:t.head.toNat<g.length:=by omega
   have MG:=xa Va
   have vZ:nq g t.head=(g[t.head.toNat]).weight:=by simp [nq,Va]
   have Vv:=OH hg t.head
   have qH:rI g s t x=ot g s t.args (x.1+s*nq g t.head,x.2):=by cases t;rw [rI];exact if_neg fN
   have rG:IntKind.i64.wrap (s*nq g t.head)=s*nq g t.head:=ek (by rcases hs with rfl | rfl<;>omega)
   have rH:IntKind.i64.wrap (x.1+s*nq g t.head)=x.1+s*nq g t.head:=ek (by rcases hs with rfl | rfl<;>omega)
   have M6:qb (B+1000000) (x.1+s*nq g t.head,x.2):=by
    refine ⟨?_,?_,fun y hy=>by have:=x3 y hy;omega⟩
    ·rcases hs with rfl | rfl<;>simp only<;>omega
    ·rcases hs with rfl | rfl<;>simp only<;>omega
   rw [qH]
   generalize yt:x.1+s*nq g t.head=VF at *
   refine aK.draw [.no, .no, .no, .no, .no, .no, .no, .no, .no, .no, .no, .no, .no, .no, .no,⟨none,[1],[]⟩] 3 3 mixed rfl rfl (by decide) ?_
   simp only [go_sem,dx,rj,MG,xb,← vZ,rG,yt,rH]
   refine ⟨⟨by omega,hih⟩,?_⟩
   refine aK.go 1000 ?_
   simp only [go_sem,ak]
   obtain ⟨F,hF⟩:∃ F,ot g s t.args (VF,x.2)=F:=⟨_,rfl⟩
   rw [hF]
   refine aK.c_ (ι:={q:Nat×(Int×List (Int×Int)) // q.1≤t.args.length∧ot g s (t.args.drop q.1) q.2=F∧∃ C,0≤C∧qb C q.2∧C+1000000*Tm.bF (t.args.drop q.1)≤1000000000000000}) 1000
    (fun q=>fG 58 [(0, .ptr 1 0),(1, .ps 4 (syms g)),(3, .int .i64 s),(46, .ps 2 (t.args.map Tm.aO)),(47, .int .i64 t.args.length),(48, .int .i64 q.1.1)]) (fun q=>pP q.1.2) (fun q=>t.args.length - q.1.1)
    ⟨(0,(VF,x.2)),by simp only [di];exact ⟨av _,hF,B+1000000,by omega,M6,by omega⟩⟩ ?_ (fun _=>by simp [pP]) ?_
   ·unfold pP
    simp only [go_sem,dK,bQ,ri]
   ·rintro ⟨⟨i,y⟩,hi,aP,C,US,LX,LZ⟩
    simp only at hi aP LX LZ
    by_cases bD:(i:Int)<t.args.length
    ·have aZ:i<t.args.length:=by omega
     have hw:IntKind.i64.wrap ((i:Int)+1)=((i+1:Nat):Int):=by rw [ek (by omega)];omega
     have Ak:(t.args.map Tm.aO).getD i .undef=t.args[i].aO:=nO aZ
     have jx:=aE aZ
     have hui:=K6 (Uo fp) _ jx
     have huf:=wA (xg hft) _ jx
     have yq:=sT jx
     rw [ao aZ] at aP LZ
     rw [ot] at aP
     rw [Tm.bF] at LZ
     generalize t.args[i]=u at *
     unfold pP
     simp only [go_sem,bD,ak,Ak,ft]
     refine ⟨by omega,?_⟩
     rw [← dc u]
     have hI:∀ b,b<2→b=0∨b=1:=fun b hb=>by omega
     have hL:bx 2 [ae.ptr 1 0, .ps 4 (syms g),u.aO, .int .i64 s]:=⟨cy 1,dK _,dC u,trivial,trivial⟩
     refine aq.l9 (Z:=pP y) (f:=.fn 212 [] []) (args:=[ae.ptr 1 0, .ps 4 (syms g),u.aO, .int .i64 s]) (fun b=>b) (fun b b' h1 h2 e=>e) (fun b hb=>Nat.lt_succ_of_lt hb) (fun b hb=>?_) (by simp [go_sem]) rfl hL (qg _ 2 (fun _ _=>rfl) _ hL) (by simp [pP,go_sem,ri]) (PE g hg lT s hs n u y C (by omega) (by omega) hui huf US LX (by omega)) ?_
     ·rcases hI b hb with rfl | rfl
      ·refine ⟨_,rfl,?_⟩
       simp [dE,cD (ri y.2).1,cD (ri y.2).2]
      ·exact ⟨_,rfl,rfl⟩
     rintro r Z' ⟨rfl,rfl⟩
     refine ⟨by simp [pP],by simp [pP,go_sem,ri],trivial,?_⟩
     have LY:=Iz hg hs u y C US LX
     generalize rI g s u y=z at *
     simp only [go_sem,pP,jJ,e9,mY,aF,aS,cD (ri z.2).1,cD (ri z.2).2]
     refine aK.go 1000 ?_
     simp only [go_sem,hw]
     refine ⟨⟨(i+1,z),by simp only;omega,aP,C+1000000*u.size,by omega,LY,by simp only;omega⟩,?_,by simp only;omega⟩
     simp only [go_sem,dK,bQ,ri]
    ·have dP:i=t.args.length:=by omega
     subst dP
     rw [aV,ot] at aP
     subst aP
     unfold pP
     simp only [go_sem,bD]
     refine aK.go 1000 ?_
     simp only [go_sem]
     rw [fL]
     exact ⟨pP y,by simp [pP,go_sem],by simp [pP],by simp [pP,go_sem,ri],trivial,rfl,rfl⟩
def td (x:Int×List (Int×Int)) (n:Int):Int:=mF n ((x.2.map Prod.snd).any fun n=>decide (0<n)) ((x.2.map Prod.snd).any fun n=>decide (n<0))
def nK (g:List Sy) (t u:Tm):Int×List (Int×Int):=rI g (-1) u (rI g 1 t (0,[]))
mutual
def dQ (g:List Sy):Tm→Tm→Int
 | .mk h ts,u=>if Tm.mk h ts=u then 0 else
  if (nK g (.mk h ts) u).1≠0 then td (nK g (.mk h ts) u) (nK g (.mk h ts) u).1 else
  if h<0∨u.head<0 then 2 else if h≠u.head then td (nK g (.mk h ts) u) (h - u.head) else gx g (nK g (.mk h ts) u) ts u.args
def gx (g:List Sy) (x:Int×List (Int×Int)):List Tm→List Tm→Int
 | [],_=>0
 | _ :: _,[]=>0
 | t :: ts,u :: us=>if dQ g t u≠0 then (if dQ g t u=2 then 2 else td x (dQ g t u)) else gx g x ts us
end
def zZ (g:List Sy) (h:Int):Int:=((g[h.toNat]?).map Sy.arity).getD 0
mutual
def Tm.Co (g:List Sy):Tm→Prop
 | .mk h ts=>(0≤h→(ts.length:Int)=zZ g h)∧Tm.xD g ts
def Tm.xD (g:List Sy):List Tm→Prop
 | []=>True
 | t :: ts=>t.Co g∧Tm.xD g ts
end
theorem Ir {g:List Sy} {t:Tm} (h:t.Co g) (h0 : 0≤t.head):(t.args.length:Int)=zZ g t.head:=by cases t;exact h.1 h0
theorem Yjh {g:List Sy} {t:Tm} (h:t.Co g):Tm.xD g t.args:=by cases t;exact h.2
theorem TC {g:List Sy}:∀ {ts:List Tm},Tm.xD g ts→∀ t∈ts,t.Co g
 | x :: ts,h,t,ht=>by
  rcases aQ.1 ht with rfl | ht
  ·exact h.1
  ·exact TC h.2 t ht
def jo (g:List Sy) (t:Tm):Prop:=t.size<100000000∧t.BL g∧t.Co g∧t.fit
theorem KM {g:List Sy} {t u:Tm} (h:jo g t) (hu:u∈t.args):jo g u:=by
 have h1:=sT hu
 have h2:=ov t
 exact ⟨by have:=h.1;omega,K6 (Uo h.2.1) u hu,TC (Yjh h.2.2.1) u hu,wA (xg h.2.2.2) u hu⟩
theorem PK (g:List Sy) (hg:sW g) (lT:g.length<1000000) (s:Int) (hs:s=1∨s = -1) (t:Tm) (x:Int×List (Int×Int)) (B:Int) (ht:jo g t) (h0 : 0≤B) (hx:qb B x) (hB:B+1000000*t.size≤1000000000000000) (a0 a1:Option bE) {K:ae→ai→Prop}
  (hK:K (.dz []) [a0,a1,some (.map (j0 (rI g s t x).2) (lJ (rI g s t x).2) false),some (.var [.int .i64 (rI g s t x).1, .map 2])]) :
  aq Tryz.prog (.fn 212 [] []) [.ptr 3 0, .ps 4 (syms g), .agg [.int .i64 t.head, .ps 2 (t.args.map Tm.aO)], .int .i64 s] [a0,a1,some (.map (j0 x.2) (lJ x.2) false),some (.var [.int .i64 x.1, .map 2])] K:=by
 have hI:∀ b,b<2→b=0∨b=1:=fun b hb=>by omega
 have hL:bx 2 [ae.ptr 1 0, .ps 4 (syms g),t.aO, .int .i64 s]:=⟨cy 1,dK _,dC t,trivial,trivial⟩
 rw [← dc t]
 refine aq.l9 (Z:=pP x) (f:=.fn 212 [] []) (args:=[ae.ptr 1 0, .ps 4 (syms g),t.aO, .int .i64 s]) (fun b=>b+2) (fun b b' h1 h2 e=>by omega) (fun b hb=>by have:b<2:=hb;simp;omega) (fun b hb=>?_) (by simp [go_sem]) rfl hL ?_ (by simp [pP,go_sem,ri]) (PE g hg lT s hs t.size t x B (ah _) ht.1 ht.2.1 ht.2.2.2 h0 hx hB) ?_
 ·rcases hI b hb with rfl | rfl
  ·refine ⟨_,rfl,?_⟩
   simp [dE,cD (ri x.2).1,cD (ri x.2).2]
  ·exact ⟨_,rfl,rfl⟩
 ·simp only [dU,dG,cD (dK _),zK (KY t),Nat.reduceAdd]
 rintro r Z' ⟨rfl,rfl⟩
 refine ⟨by simp [pP],by simp [pP,go_sem,ri],trivial,?_⟩
 generalize rI g s t x=z at *
 simp only [go_sem,pP,jJ,e9,mY,aF,aS,cD (ri z.2).1,cD (ri z.2).2]
 exact hK
theorem KW (g:List Sy) (hg:sW g) (lT:g.length<1000000):∀ (n:Nat) (t u:Tm),t.size≤n→jo g t→jo g u→aJ Tryz.prog 195 [.ps 4 (syms g),t.aO,u.aO] (.int .i64 (dQ g t u))
 | 0,t,_,h,_,_=>by have:=ov t;omega
 | n+1,t,u,hn,ht,hu=>by
  refine aJ.begin (rs:=[.tmp 6]) (m:=82) 1000 Tryz.func195 rfl rfl rfl (by decide) trivial ?_
  have fQ:dQ g t u=if t=u then 0 else if (nK g t u).1≠0 then td (nK g t u) (nK g t u).1 else if t.head<0∨u.head<0 then 2 else if t.head≠u.head then td (nK g t u) (t.head - u.head) else gx g (nK g t u) t.args u.args:=by
   cases t;rw [dQ];rfl
  simp only [go_sem,ft]
  refine aq.bU [] (zL t u (by have:=ht.1;omega) (by have:=hu.1;omega)) (by (try simp only [dc]);exact cE _ _ _) (by simp [go_sem,dC,bQ]) ?_;simp only [bO,bX,bW,if_true];refine aK.go 1000 ?_
  by_cases he:t=u
  ·rw [fQ,if_pos he]
   simp only [go_sem,he]
  ·rw [if_neg he] at fQ
   simp only [go_sem,he]
   have Vq:=ht.1
   have hu1:=hu.1
   have Vy:qb 0 (0,[]):=⟨by simp,by simp,fun y hy=>by cases hy⟩
   have Vz:=Iz hg (.inl rfl) t (0,[]) 0 (by omega) Vy
   refine PK g hg lT 1 (.inl rfl) t (0,[]) 0 ht (by omega) Vy (by omega) _ _ ?_
   refine aK.go 1000 ?_
   simp only [go_sem]
   refine PK g hg lT (-1) (.inr rfl) u _ _ hu (by omega) Vz (by omega) _ _ ?_
   have j9:=Iz hg (.inr rfl) u _ _ (by omega) Vz
   have ua:∀ n,aJ Tryz.prog 213 [.pp [.int .i64 (nK g t u).1, .pm (j0 (nK g t u).2) (lJ (nK g t u).2)], .int .i64 n] (.int .i64 (td (nK g t u) n)):=fun n=>Yol _ n _ _ (by simp [j0,ints]) (ri _).1
   rw [show rI g (-1) u (rI g 1 t (0,[]))=nK g t u from rfl] at j9 ⊢
   generalize nK g t u=x at *
   refine aK.FP (q:=2) (b:=3) rfl rfl (by decide) ?_
   refine aK.go 1000 ?_
   have uZ:pz 2 (j0 x.2) (lJ x.2) t.aO=t.aO:=by rw [dc];rfl
   have oO:pz 2 (j0 x.2) (lJ x.2) u.aO=u.aO:=by rw [dc];rfl
   by_cases h1:x.1=0
   ·rw [if_neg (by simp [h1])] at fQ
    rw [h1] at ua
    by_cases c1:t.head<0
    ·rw [if_pos (.inl c1)] at fQ
     rw [fQ]
     simp only [go_sem,aF,aS,h1,uZ,oO,c1]
    ·by_cases c2:u.head<0
     ·rw [if_pos (.inr c2)] at fQ
      rw [fQ]
      simp only [go_sem,aF,aS,h1,uZ,oO,c1,c2]
     ·rw [if_neg (by simp [c1,c2])] at fQ
      have i1:=Fb ht.2.1
      have i2:=Fb hu.2.1
      by_cases c3:t.head=u.head
      ·rw [if_neg (by simp [c3])] at fQ
       have FH:¬ u.head<0:=c2
       simp only [go_sem,aF,aS,h1,uZ,oO,c3,FH,ak]
       have hlen:t.args.length=u.args.length:=by
        have l1:=Ir ht.2.2.1 (by omega)
        have l2:=Ir hu.2.2.1 (by omega)
        rw [c3,← l2] at l1;omega
       have me:=p5 t.args
       have Ay:=ov t
       refine aK.c_ (ι:={i:Nat // i≤t.args.length∧gx g x (t.args.drop i) (u.args.drop i)=dQ g t u}) 1000
        (fun q=>fG 85 [(0, .ps 4 (syms g)),(4, .ptr 0 0),(5, .ptr 1 0),(6, .int .i64 0),(7, .ptr 3 0),(25, .ps 2 (t.args.map Tm.aO)),(26, .int .i64 t.args.length),(27, .int .i64 q.1)])
        (fun _=>[some (.var [.int .i64 u.head, .ps 2 (t.args.map Tm.aO)]),some (.var [.int .i64 u.head, .ps 2 (u.args.map Tm.aO)]),none,some (.var [.int .i64 0, .pm (j0 x.2) (lJ x.2)])]) (fun q=>t.args.length - q.1) ⟨0,by simp [fQ]⟩ ?_ (fun _=>av _) ?_
       ·simp only [go_sem,dK,bQ,ri]
       ·rintro ⟨i,hi,aP⟩
        by_cases bD:(i:Int)<t.args.length
        ·have aZ:i<t.args.length:=by omega
         have I2:i<u.args.length:=by omega
         have hw:IntKind.i64.wrap ((i:Int)+1)=((i+1:Nat):Int):=by rw [ek (by omega)];omega
         have rE:(t.args.map Tm.aO).getD i .undef=t.args[i].aO:=nO aZ
         have u9:(u.args.map Tm.aO).getD i .undef=u.args[i].aO:=nO I2
         have vW:=aE aZ
         have o1:=KM ht vW
         have o2:=KM hu (aE I2)
         have rY:=sT vW
         have sD:=KW g hg lT n t.args[i] u.args[i] (by omega) o1 o2
         rw [ao aZ,ao I2,gx] at aP
         generalize t.args[i]=y at *
         generalize u.args[i]=z at *
         generalize dQ g y z=r at *
         have hlI:(i:Int)<u.args.length:=by omega
         simp only [go_sem,bD]
         refine aK.draw [] 4 4 mixed rfl rfl (by decide) ?_
         simp only [go_sem,dx,ak,rE,u9,ft]
         refine ⟨⟨by omega,bD⟩,⟨by omega,hlI⟩,?_⟩
         refine ny sD (by simp only [dc,bh,bn];exact cE _ _ _) (by simp [go_sem,dC,dK]) ?_
         simp only [go_sem]
         by_cases r0:r=0
         ·rw [if_neg (by simp [r0])] at aP
          refine aK.go 1000 ?_
          simp only [go_sem,r0,hw]
          refine ⟨⟨i+1,by omega,aP⟩,?_,by simp only;omega⟩
          simp only [go_sem,dK,bQ,ri]
         ·rw [if_pos r0] at aP
          by_cases r2:r=2
          ·rw [if_pos r2] at aP
           refine aK.go 1000 ?_
           simp only [go_sem,r0,r2]
           refine aK.go 1000 ?_
           simp only [go_sem,← aP]
          ·rw [if_neg r2] at aP
           refine aK.go 1000 ?_
           simp only [go_sem,r0,r2]
           refine aq.sH (b:=3) (cs:=[.int .i64 0, .pm (j0 x.2) (lJ x.2)]) [] rfl (ua r) ?_ ?_ rfl ?_
           ·exact cE _ _ _
           ·simp [go_sem,ri]
           refine aK.go 1000 ?_
           simp only [go_sem]
           refine aK.go 1000 ?_
           simp only [go_sem,← aP]
        ·have dP:i=t.args.length:=by omega
         subst dP
         rw [aV,gx] at aP
         simp only [go_sem,bD]
         refine aK.go 1000 ?_
         simp only [go_sem,← aP]
      ·rw [if_pos c3] at fQ
       have hw:IntKind.i64.wrap (t.head - u.head)=t.head - u.head:=ek (by omega)
       simp only [go_sem,aF,aS,h1,uZ,oO,c1,c2,c3,hw]
       refine aq.sH (b:=3) (cs:=[.int .i64 0, .pm (j0 x.2) (lJ x.2)]) [] rfl (ua (t.head - u.head)) ?_ ?_ rfl ?_
       ·exact cE _ _ _
       ·simp [go_sem,ri]
       refine aK.go 1000 ?_
       simp only [go_sem,fQ]
   ·rw [if_pos h1] at fQ
    simp only [go_sem,aF,aS,h1,uZ,oO]
    refine aq.sH (b:=3) (cs:=[.int .i64 x.1, .pm (j0 x.2) (lJ x.2)]) [] rfl (ua x.1) ?_ ?_ rfl ?_
    ·exact cE _ _ _
    ·simp [go_sem,ri]
    refine aK.go 1000 ?_
    simp only [go_sem,fQ]
def ez (g:List Sy):List Tm→Int
 | []=>0
 | t :: ts=>if t.term g=0 then ez g ts else t.term g
theorem Rs (g:List Sy) (ts:List Tm) (hl:ts.length<100000000) (ht:∀ t∈ts,t.size<99999999):aJ Tryz.prog 194 [.ps 4 (syms g), .ps 2 (ts.map Tm.aO)] (.int .i64 (ez g ts)):=by
 refine aJ.begin (rs:=[.tmp 4]) (m:=19) 1000 Tryz.func194 rfl rfl rfl (by decide) trivial ?_
 simp only [go_sem,ak]
 refine aK.c_ (ι:={i:Nat // i≤ts.length∧ez g (ts.drop i)=ez g ts}) 1000 (fun q=>fG 21 [(0, .ps 4 (syms g)),(4, .int .i64 0),(8, .ps 2 (ts.map Tm.aO)),(9, .int .i64 ts.length),(10, .int .i64 q.1)])
  (fun _=>[]) (fun q=>ts.length - q.1) ⟨0,by simp⟩ ?_ (fun _=>av _) ?_
 ·simp only [go_sem,dK,bQ]
 ·rintro ⟨i,hi,aP⟩
  by_cases bD:(i:Int)<ts.length
  ·have aZ:i<ts.length:=by omega
   have hw:IntKind.i64.wrap ((i:Int)+1)=((i+1:Nat):Int):=by rw [ek (by omega)];omega
   have rE:(ts.map Tm.aO).getD i .undef=ts[i].aO:=nO aZ
   have hm:=ht _ (aE aZ)
   have htw:=K7 g ts[i] (by omega)
   rw [ao aZ,ez] at aP
   generalize ts[i]=t at *
   simp only [go_sem,bD,ak,rE,ft]
   refine ⟨by omega,?_⟩
   refine aq.bU [] (htw) (by (try simp only [dc]);exact cE _ _ _) (by simp [go_sem,dC,bQ,dK]) ?_;simp only [bO,bX,bW,if_true];refine aK.go 1000 ?_
   by_cases h:t.term g=0
   ·rw [if_pos h] at aP
    simp only [go_sem,h,hw]
    refine ⟨⟨i+1,by omega,aP⟩,?_,by simp only;omega⟩
    simp only [go_sem,dK,bQ]
   ·rw [if_neg h] at aP
    simp only [go_sem,h]
    refine aK.go 1000 ?_
    simp only [go_sem,aP]
  ·have dP:i=ts.length:=by omega
   subst dP
   rw [aV,ez] at aP
   simp only [go_sem,bD]
   refine aK.go 1000 ?_
   simp only [go_sem,← aP]
theorem Zuz (g:List Sy) (hg:sW g) (lT:g.length<1000000) (t u:Tm) (ht:t.size<99999999) (hu:u.size<99999999) (j9:ez g [t,u]=0→jo g t∧jo g u) :
  aJ Tryz.prog 171 [.ps 4 (syms g),t.aO,u.aO] (.dz [.int .i64 (if ez g [t,u]=0 then dQ g t u else 0), .int .i64 (ez g [t,u])]):=by
 refine aJ.begin (rs:=[.tmp 6, .tmp 7]) (m:=18) 1000 Tryz.func171 rfl rfl rfl (by decide) ⟨trivial,trivial,trivial⟩ ?_
 have hw:=Rs g [t,u] (by simp) (fun y hy=>by simp at hy;rcases hy with rfl | rfl<;>assumption)
 simp only [go_sem,ft]
 refine aq.bU [2] hw ?_ (by simp [go_sem,dC,dK]) ?_
 ·simp only [go_sem,dc,aF,aS]
 simp only [bO,bX,bW,if_true]
 refine aK.go 1000 ?_
 by_cases h:ez g [t,u]=0
 ·obtain ⟨o1,o2⟩:=j9 h
  rw [if_pos h]
  simp only [go_sem,h]
  refine aq.bU [] (KW g hg lT t.size t u (ah _) o1 o2) (by (try simp only [dc]);exact cE _ _ _) (by simp [go_sem,dC,bQ,dK]) ?_;simp only [bO,bX,bW,if_true];refine aK.go 1000 ?_
  simp only [go_sem]
 ·rw [if_neg h]
  simp only [go_sem,h]
def xq (l:Li):Prop:=l.l.size<999999999∧l.r.size<999999999
def pv (a b:Li):Bool:=(decide (a.l=b.l)&&decide (a.r=b.r))||(decide (a.l=b.r)&&decide (a.r=b.l))
theorem RG (a b:Li) (ha:xq a) (hb:xq b):aJ Tryz.prog 102 [a.aO,b.aO] (.bool (pv a b)):=by
 refine aJ.begin (rs:=[.tmp 4]) (m:=29) 1000 Tryz.func102 rfl rfl rfl (by decide) trivial ?_
 obtain ⟨a1,a2⟩:=ha
 obtain ⟨b1,b2⟩:=hb
 have s1:=zL a.l b.l (by omega) (by omega)
 have s2:=zL a.r b.r (by omega) (by omega)
 have s3:=zL a.l b.r (by omega) (by omega)
 have s4:=zL a.r b.l (by omega) (by omega)
 unfold pv
 generalize decide (a.l=b.l)=p1 at *
 generalize decide (a.r=b.r)=p2 at *
 generalize decide (a.l=b.r)=p3 at *
 generalize decide (a.r=b.l)=p4 at *
 simp only [go_sem,ky]
 refine aq.bU [] (s1) (by (try simp only [dc]);exact cE _ _ _) (by simp [go_sem,dC,bQ]) ?_;simp only [bO,bX,bW,if_true];refine aK.go 1000 ?_
 cases p1
 ·simp only [go_sem]
  refine aq.bU [] (s3) (by (try simp only [dc]);exact cE _ _ _) (by simp [go_sem,dC,bQ]) ?_;simp only [bO,bX,bW,if_true];refine aK.go 1000 ?_
  cases p3
  ·simp only [go_sem,db,Bool.or_false]
  ·simp only [go_sem]
   refine aq.bU [] (s4) (by (try simp only [dc]);exact cE _ _ _) (by simp [go_sem,dC,bQ]) ?_;simp only [bO,bX,bW,if_true];refine aK.go 1000 ?_
   simp only [go_sem,db,dn,ct]
 ·simp only [go_sem]
  refine aq.bU [] (s2) (by (try simp only [dc]);exact cE _ _ _) (by simp [go_sem,dC,bQ]) ?_;simp only [bO,bX,bW,if_true];refine aK.go 1000 ?_
  cases p2
  ·simp only [go_sem]
   refine aq.bU [] (s3) (by (try simp only [dc]);exact cE _ _ _) (by simp [go_sem,dC,bQ]) ?_;simp only [bO,bX,bW,if_true];refine aK.go 1000 ?_
   cases p3
   ·simp only [go_sem,db,gW,Bool.or_false]
   ·simp only [go_sem]
    refine aq.bU [] (s4) (by (try simp only [dc]);exact cE _ _ _) (by simp [go_sem,dC,bQ]) ?_;simp only [bO,bX,bW,if_true];refine aK.go 1000 ?_
    simp only [go_sem,gW,dn,ct]
  ·simp only [go_sem,nZ,fH]
theorem TD (a b:Li) (ha:xq a) (hb:xq b):aJ Tryz.prog 65 [a.aO,b.aO] (.bool (decide (a.neg=b.neg)&&pv a b)):=by
 refine aJ.begin (rs:=[.tmp 4]) (m:=13) 1000 Tryz.func65 rfl rfl rfl (by decide) trivial ?_
 have h:=RG a b ha hb
 simp only [go_sem,ky]
 have hd:decide (a.neg=b.neg)=(a.neg==b.neg):=rfl
 rw [hd]
 cases c:a.neg==b.neg
 ·simp only [go_sem,c,db]
 ·simp only [go_sem,c]
  refine aq.bU [] h (cE _ _ _) ⟨mR _,mR _,trivial⟩ ?_
  simp only [bO,bX,bW,if_true]
  refine aK.go 1000 ?_
  simp only [go_sem,ct]
def lI (l:Li):List Tm:=if l.neg then [l.l,l.l,l.r,l.r] else [l.l,l.r]
theorem OU (l:Li):aJ Tryz.prog 216 [l.aO] (.ps 2 ((lI l).map Tm.aO)):=by
 refine aJ.begin (rs:=[.tmp 2]) (m:=18) 1000 Tryz.func216 rfl rfl rfl (by decide) (bQ _) ?_
 unfold lI
 cases h:l.neg
 ·simp only [go_sem,ky,h,a8,if_false,aF,aS]
  rw [dc l.l,dc l.r]
  exact ⟨vR _ _ _,vR _ _ _⟩
 ·simp only [go_sem,ky,h,if_true,aF,aS]
  rw [dc l.l,dc l.r]
  repeat (first | exact vR _ _ _ | exact cE _ _ _ | refine ⟨vR _ _ _,?_⟩)
def pk (l:List Tm) (i:Nat):List Tm:=l.take i++l.drop (i+1)
def dS:List Tm→List Tm→List Tm
 | [],_=>[]
 | t :: a,b=>if dF (fun x=>decide (t=x)) b 0<0 then t :: dS a b else dS a (pk b (dF (fun x=>decide (t=x)) b 0).toNat)
theorem Zto (l:List Tm) (hl:l.length≤1000000000):aq Tryz.prog (.fn 200 [] []) [.ps 2 (l.map Tm.aO)] [] (fun r σ'=>(r = .os 1 0 l.length 2∧σ'=[none,some (.row (l.map Tm.aO) 0)])∨(l=[]∧r = .aU∧σ'=[])):=by
 by_cases h:l=[]
 ·subst h
  refine (bS.v Zuo).mono ?_
  rintro r σ' (⟨rfl,rfl⟩ | ⟨rfl,rfl⟩)
  ·exact .inr ⟨rfl,rfl,rfl⟩
  ·exact .inl ⟨rfl,rfl⟩
 ·refine (bS.v (ER l h hl).1).mono ?_
  rintro r σ' ⟨rfl,rfl⟩
  exact .inl ⟨rfl,rfl⟩
theorem W6 (σ:ai) (b:Nat) (t x:Tm) (hb:bG σ b=some (.var [.int .i64 t.head, .ps 2 (t.args.map Tm.aO)])) (hs:bt σ.length σ) (ht:t.size<999999999) (hx:x.size<999999999) :
  aq Tryz.prog (.fn 240 [] [.ptr b 0]) [x.aO] σ (fun r σ'=>r = .bool (decide (t=x))∧σ' = σ):=by
 have h:aJ Tryz.prog 240 [x.aO, .pp [.int .i64 t.head, .ps 2 (t.args.map Tm.aO)]] (.bool (decide (t=x))):=by
  refine aJ.begin (rs:=[.tmp 3]) (m:=5) 1000 Tryz.func240 rfl rfl rfl (by decide) trivial ?_
  simp only [go_sem,ft]
  refine aq.bU [] (zL t x (by omega) (by omega)) (by (try simp only [dc]);exact cE _ _ _) (by simp [go_sem,dC,bQ]) ?_;simp only [bO,bX,bW,if_true];refine aK.go 1000 ?_
  simp only [go_sem]
 refine aq.sH (b:=b) (cs:=[.int .i64 t.head, .ps 2 (t.args.map Tm.aO)]) [] hb h ?_ ⟨dC x,⟨trivial,bQ _,trivial⟩,trivial⟩ rfl ⟨rfl,rfl⟩
 have h1:sV b [.int .i64 t.head, .ps 2 (t.args.map Tm.aO)] x.aO=x.aO:=by rw [dc];rfl
 have h2:sV b [.int .i64 t.head, .ps 2 (t.args.map Tm.aO)] (.ptr b 0) = .pp [.int .i64 t.head, .ps 2 (t.args.map Tm.aO)]:=by simp [sV,xK]
 simp only [bh,bj,aF,aS,h1,h2]
 exact cE _ _ _
theorem Ti (a b:List Tm) (ha:a.length<1000000) (hb:b.length<1000000) (Ay:∀ t∈a,t.size<99999999) (s0:∀ t∈b,t.size<99999999):aJ Tryz.prog 230 [.ps 2 (a.map Tm.aO), .ps 2 (b.map Tm.aO)] (.ps 2 ((dS a b).map Tm.aO)):=by
 refine aJ.begin (rs:=[.tmp 4]) (m:=32) 1000 Tryz.func230 rfl rfl rfl (by decide) (bQ _) ?_
 simp only [go_sem]
 refine (Zto b (by omega)).mono ?_
 rintro r σ' (⟨rfl,rfl⟩ | ⟨rfl,rfl,rfl⟩)
 ·refine aK.go 1000 ?_
  simp only [go_sem,ak]
  refine aK.h_ (ι:={q:Nat×List Tm×List Tm // q.1≤a.length∧q.2.1++dS (a.drop q.1) q.2.2=dS a b∧q.2.1.length≤q.1∧q.2.2.length≤b.length∧∀ x∈q.2.2,x.size<99999999}) 1000
   (fun q=>fG 34 [(4, .aU),(5, .os 1 0 q.1.2.2.length 2),(6,i_ 2 2 (q.1.2.1.map Tm.aO)),(12, .ps 2 (a.map Tm.aO)),(13, .int .i64 a.length),(14, .int .i64 q.1.1)])
   (fun q=>[none,some (.row (q.1.2.2.map Tm.aO) 0),eV (q.1.2.1.map Tm.aO)]) (fun q=>a.length - q.1.1) ⟨(0,[],b),by simpa using s0⟩ [] ?_ (fun _=>av _) ?_
  ·refine iP rfl ?_
   simp only [go_sem,bQ,cD (bQ _),aS,uD,tz]
  ·rintro ⟨⟨i,L,c⟩,hi,aP,Af,gK,sw⟩
   simp only at hi aP Af gK sw
   by_cases bD:(i:Int)<a.length
   ·have aZ:i<a.length:=by omega
    have hw:IntKind.i64.wrap ((i:Int)+1)=((i+1:Nat):Int):=by rw [ek (by omega)];omega
    have rE:(a.map Tm.aO).getD i .undef=a[i].aO:=nO aZ
    have ru:=Ay _ (aE aZ)
    rw [ao aZ,dS] at aP
    generalize a[i]=t at *
    simp only [go_sem,bD,ak,rE,ft]
    refine ⟨by omega,?_⟩
    refine (Zsy _ (.fn 240 [] [.ptr 3 0]) (fun x=>decide (t=x)) c rfl (by omega) ?_ ?_ (fun j hj=>W6 _ 3 t c[j] rfl ?_ (by omega) (by have:=sw _ (aE hj);omega))).mono ?_
    ·simp only [go_sem,bQ]
    ·simp only [go_sem]
    ·simp only [go_sem,bQ]
    rintro r σ' ⟨rfl,rfl⟩
    rcases Hv (fun x=>decide (t=x)) c 0 (by omega) with ⟨q1,_⟩ | ⟨k,q1,q2,_⟩
    ·rw [q1] at aP ⊢
     rw [if_pos (by omega)] at aP
     refine aK.go 1000 ?_
     simp only [go_sem,Int.reduceNeg,Int.reduceLT]
     have h2:bG [none,some (bE.row (c.map Tm.aO) 0),eV (L.map Tm.aO),some (bE.var [.int .i64 t.head, .ps 2 (t.args.map Tm.aO)]),some (bE.row [.agg [.int .i64 t.head, .ps 2 (t.args.map Tm.aO)]] 0)] 2=eV (L.map Tm.aO):=rfl
     have nD:=of_eq_true (B9 [t])
     rw [show [t].map Tm.aO=[t.aO] from rfl,dc t] at nD
     simp only [go_sem,uO h2,nD,ak,hw]
     refine ⟨by omega,⟨(i+1,L++[t],c),by simp only;omega,by rw [← aP];simp,by simp only [ay,ax,aR];omega,gK,sw⟩,[(2,5),(5,2)],iP rfl ?_,by simp only;omega⟩
     have lw:bx 0 ((L++[t]).map Tm.aO):=bQ _
     dsimp only
     rw [cL] at lw ⊢
     rw [vQ (by simp),vS (by simp)]
     simp only [aF,aS,dc t] at lw
     simp only [go_sem,bQ,cD (bQ _),cD lw,il (av 3) lw,ak,ax,aR,aF,aS,dc t]
    ·have CS:(0:Int)+k=k:=by omega
     rw [q2,CS] at aP ⊢
     rw [if_neg (by omega),b_] at aP
     have M3:¬ (k:Int)<0:=by omega
     have Ez:IntKind.i64.wrap ((k:Int)+1)=((k+1:Nat):Int):=by rw [ek (by omega)];omega
     refine aK.go 1000 ?_
     simp only [go_sem,M3,Ez]
     refine aq.z6 (f:=.fn 241 [] []) (args:=[.os 0 0 c.length 2, .int .i64 k, .int .i64 ((k+1:Nat):Int)]) (B:=.row (c.map Tm.aO) 0) 1 rfl (bQ _) ⟨trivial,trivial⟩ ⟨cm,trivial,trivial,trivial⟩ ((Wd c k q1 (by omega)).mono ?_)
     rintro r σ' ⟨rfl,rfl⟩
     refine ⟨cm,_,rfl,bQ _,?_⟩
     have xV:(pk c k).length=c.length - 1:=by simp only [pk,ay,cV,cf];omega
     rw [show c.take k++c.drop (k+1)=pk c k from rfl,← xV]
     simp only [go_sem,cZ,de]
     refine aK.go 1000 ?_
     simp only [go_sem,hw]
     refine ⟨⟨(i+1,L,pk c k),by simp only;omega,aP,by simp only;omega,by simp only;omega,fun x hx=>?_⟩,[],iP rfl ?_,by simp only;omega⟩
     ·rcases aW.1 hx with hx | hx
      ·exact sw x (lO hx)
      ·exact sw x (List.mem_of_mem_drop hx)
     simp only [go_sem,bQ,cD (bQ _),Hz (bQ L)]
   ·have dP:i=a.length:=by omega
    subst dP
    rw [aV,dS,bn] at aP
    simp only [go_sem,bD]
    refine aK.go 1000 ?_
    simp only [go_sem]
    rw [← aP,rQ rfl rfl];trivial
 ·refine aK.go 1000 ?_
  simp only [go_sem,ak]
  refine aK.h_ (ι:={q:Nat×List Tm // q.1≤a.length∧q.2++dS (a.drop q.1) []=dS a []∧q.2.length≤q.1}) 1000
   (fun q=>fG 34 [(4, .aU),(5, .aU),(6,i_ 0 2 (q.1.2.map Tm.aO)),(12, .ps 2 (a.map Tm.aO)),(13, .int .i64 a.length),(14, .int .i64 q.1.1)])
   (fun q=>[eV (q.1.2.map Tm.aO)]) (fun q=>a.length - q.1.1) ⟨(0,[]),by simp⟩ [] ?_ (fun _=>av _) ?_
  ·refine iP rfl ?_
   simp only [go_sem,bQ,cD (bQ _),aS,uD,tz]
  ·rintro ⟨⟨i,L⟩,hi,aP,Af⟩
   simp only at hi aP Af
   by_cases bD:(i:Int)<a.length
   ·have aZ:i<a.length:=by omega
    have hw:IntKind.i64.wrap ((i:Int)+1)=((i+1:Nat):Int):=by rw [ek (by omega)];omega
    have rE:(a.map Tm.aO).getD i .undef=a[i].aO:=nO aZ
    have ru:=Ay _ (aE aZ)
    rw [ao aZ,dS,if_pos (by simp [dF])] at aP
    generalize a[i]=t at *
    simp only [go_sem,bD,ak,rE,ft]
    refine ⟨by omega,?_⟩
    refine aq.LK (args':=[.ps 2 (([]:List Tm).map Tm.aO), .fn 240 [] [.ptr 1 0]]) ?_ ?_
    ·simp only [go_sem,aS]
    refine (Q_ _ (.fn 240 [] [.ptr 1 0]) (fun x=>decide (t=x)) [] (by simp) ?_ ?_ (fun j hj=>by simp at hj)).mono ?_
    ·simp only [go_sem,bQ]
    ·simp only [go_sem]
    rintro r σ' ⟨rfl,rfl⟩
    rw [show dF (fun x=>decide (t=x)) [] 0 = -1 from rfl]
    refine aK.go 1000 ?_
    simp only [go_sem,Int.reduceNeg,Int.reduceLT]
    have h2:bG [eV (L.map Tm.aO),some (bE.var [.int .i64 t.head, .ps 2 (t.args.map Tm.aO)]),some (bE.row [.agg [.int .i64 t.head, .ps 2 (t.args.map Tm.aO)]] 0)] 0=eV (L.map Tm.aO):=rfl
    have nD:=of_eq_true (B9 [t])
    rw [show [t].map Tm.aO=[t.aO] from rfl,dc t] at nD
    simp only [go_sem,uO h2,nD,ak,hw]
    refine ⟨by omega,⟨(i+1,L++[t]),by simp only;omega,by rw [← aP];simp,by simp only [ay,ax,aR];omega⟩,[(0,3),(3,0)],iP rfl ?_,by simp only;omega⟩
    have lw:bx 0 ((L++[t]).map Tm.aO):=bQ _
    dsimp only
    rw [cL] at lw ⊢
    rw [vQ (by simp),vS (by simp)]
    simp only [aF,aS,dc t] at lw
    simp only [go_sem,bQ,cD (bQ _),cD lw,il (av 1) lw,ak,ax,aR,aF,aS,dc t]
   ·have dP:i=a.length:=by omega
    subst dP
    rw [aV,dS,bn] at aP
    simp only [go_sem,bD]
    refine aK.go 1000 ?_
    simp only [go_sem]
    rw [← aP,rQ rfl rfl];trivial
def tD (g:List Sy) (a:List Tm) (y:Tm):Bool:=a.any fun x=>decide (dQ g x y=1)
def mE (g:List Sy) (a b:List Tm):Bool:=decide (0<a.length) && !(b.any fun y=>!tD g a y)
def sP (t:Tm):Option bE:=some (.var [.int .i64 t.head, .ps 2 (t.args.map Tm.aO)])
def oV (g:List Sy) (a:List Tm):ai:=[some (.var [.ps 4 (syms g)]),some (.var [.ps 2 (a.map Tm.aO)]),some (.var [.fn 242 [] [.ptr 1 0, .ptr 0 0]])]
theorem Xw (g:List Sy) (hg:sW g) (lT:g.length<1000000) (a:List Tm) (x y:Tm) (hx:jo g x) (hy:jo g y) :
  aq Tryz.prog (.fn 243 [] [.ptr 0 0, .ptr 4 0]) [x.aO] (oV g a++[sP y,sP y]) (fun r σ'=>r = .bool (decide (dQ g x y=1))∧σ'=oV g a++[sP y,sP y]):=by
 unfold oV sP
 refine aq.begin (rs:=[.tmp 4]) (m:=7) 1000 Tryz.func243 rfl rfl rfl rfl rfl ?_
 have hs:=KW g hg lT x.size x y (ah _) hx hy
 simp only [go_sem,ft,bj,bh]
 refine aq.bU [] hs (by simp only [dc,bj,bh,bn];exact cE _ _ _) (by simp [go_sem,dC,dK]) ?_
 simp only [bO,bX,bW,if_true]
 refine aK.go 1000 ?_
 simp only [go_sem]
 rw [fL]
 exact ⟨oV g a++[sP y,sP y],by simp [oV,sP,go_sem],by simp [oV],by simp [oV,sP,go_sem,dK,bQ],trivial,rfl,rfl⟩
theorem Iq (g:List Sy) (a:List Tm) (l:List Tm) {n:Nat} (hn:n=3+l.length):bt n (oV g a++l.map sP):=by
 subst hn
 refine o8 ?_ ?_
 ·refine nx (bN 3 _) ?_
  simp [oV,go_sem,dK,bQ]
 ·induction l with
  | nil=>trivial
  | cons x l ih=>exact ⟨⟨trivial,bQ _,trivial⟩,nx (by simp) ih⟩
theorem Yme (g:List Sy) (hg:sW g) (lT:g.length<1000000) (a:List Tm) (y:Tm) (ha:∀ x∈a,jo g x) (me:a.length<1000000) (hy:jo g y) :
  aq Tryz.prog (.fn 242 [] [.ptr 1 0, .ptr 0 0]) [y.aO] (oV g a++[sP y]) (fun r σ'=>r = .bool (tD g a y)∧σ'=oV g a++[sP y]):=by
 refine aq.begin (rs:=[.tmp 4]) (m:=5) 1000 Tryz.func242 rfl rfl rfl rfl rfl ?_
 have hc:=JA (oV g a++[sP y,sP y]) (.fn 243 [] [.ptr 0 0, .ptr 4 0]) (fun x=>decide (dQ g x y=1)) a (by omega) (Iq g a [y,y] rfl) (by simp [oV,go_sem]) (fun i h=>Xw g hg lT a a[i] y (ha _ (aE h)) hy)
 unfold oV sP at hc ⊢
 simp only [go_sem,ft,bj,bh]
 refine hc.mono ?_
 rintro r σ' ⟨rfl,rfl⟩
 refine aK.go 1000 ?_
 simp only [go_sem,bj,bh]
 rw [fL]
 exact ⟨oV g a++[sP y],by simp [oV,sP,go_sem],by simp [oV],Iq g a [y] rfl,trivial,rfl,rfl⟩
theorem Yln (g:List Sy) (hg:sW g) (lT:g.length<1000000) (a:List Tm) (y:Tm) (ha:∀ x∈a,jo g x) (me:a.length<1000000) (hy:jo g y) :
  aq Tryz.prog (.fn 244 [] [.ptr 2 0]) [y.aO] (oV g a) (fun r σ'=>r = .bool (!tD g a y)∧σ'=oV g a):=by
 refine aq.begin (rs:=[.tmp 3]) (m:=6) 1000 Tryz.func244 rfl rfl rfl rfl rfl ?_
 have hc:=Yme g hg lT a y ha me hy
 rw [dc y] at hc
 unfold oV sP at hc
 unfold oV
 simp only [go_sem,ft,bj,bh]
 refine hc.mono ?_
 rintro r σ' ⟨rfl,rfl⟩
 refine aK.go 1000 ?_
 simp only [go_sem,bj,bh]
 rw [fL]
 exact ⟨oV g a,by simp [oV,sP,go_sem],by simp [oV],(show bt 3 (oV g a) by simpa using Iq g a [] rfl),trivial,rfl,rfl⟩
theorem T_ (g:List Sy) (hg:sW g) (lT:g.length<1000000) (a b:List Tm) (ha:∀ x∈a,jo g x) (hb:∀ x∈b,jo g x) (me:a.length<1000000) (vT:b.length<1000000) :
  aJ Tryz.prog 231 [.ps 4 (syms g), .ps 2 (a.map Tm.aO), .ps 2 (b.map Tm.aO)] (.bool (mE g a b)):=by
 refine aJ.begin (rs:=[.tmp 6]) (m:=15) 1000 Tryz.func231 rfl rfl rfl (by decide) trivial ?_
 have hc:=JA (oV g a) (.fn 244 [] [.ptr 2 0]) (fun y=>!tD g a y) b (by omega) (show bt 3 (oV g a) by simpa using Iq g a [] rfl) (by simp [oV,go_sem]) (fun i h=>Yln g hg lT a b[i] ha me (hb _ (aE h)))
 unfold oV at hc
 by_cases h:(0:Int)<a.length
 ·have h' : 0<a.length:=by omega
  simp only [go_sem,ak,h]
  refine hc.mono ?_
  rintro r σ' ⟨rfl,rfl⟩
  refine aK.go 1000 ?_
  simp only [go_sem,mE,h',decide_true,ct]
 ·have h':¬ 0<a.length:=by omega
  simp only [go_sem,ak,h,mE,h',decide_false,db]
theorem XF (n:Nat) (hn:n<10000000):aq Tryz.prog (.fn 239 [] []) [.aU, .int .i64 n] [] (fun r σ'=>(n=0∧r = .aU∧σ'=[])∨∃ J,bx 0 J∧r = .os 0 0 0 2∧σ'=[some (.row J 0)]):=by
 refine aq.begin (rs:=[.tmp 4]) (m:=25) 1000 Tryz.func239 rfl rfl rfl rfl rfl ?_
 have h1:¬ (n:Int)<0:=by omega
 have hw:IntKind.i64.wrap (n:Int)=n:=ek (by omega)
 have Vu:IntKind.i64.wrap 0=0:=ek (by omega)
 by_cases h:(0:Int)<n
 ·have h2:¬ n=0:=by omega
  have h3:n≤6000000000000:=by omega
  have hz:eI ⟨2,true,32,[.int .i64 0, .aU], .struct⟩ (List.replicate n (.agg [.int .i64 0, .aU])):=⟨fun x hx=>by rw [(List.mem_replicate.1 hx).2];exact ⟨rfl,rfl⟩,by decide,by decide,rfl⟩
  simp only [go_sem,h1,hw,Vu,h,hz,bz,h2,h3]
  have hJ:∀ k m,bx k (List.replicate m (ae.agg [.int .i64 0, .aU])):=fun k m=>by
   induction m with
   | zero=>trivial
   | succ m ih=>rw [fw];exact ⟨⟨trivial,trivial,trivial⟩,ih⟩
  refine ⟨⟨by omega,by omega⟩,by omega,?_⟩
  rw [fL]
  exact ⟨_,fx _,av _,⟨hJ _ _,trivial⟩,cm,_,hJ _ _,rfl,rfl⟩
 ·simp only [go_sem,h1,hw,Vu,h]
  rw [fL]
  exact ⟨[],trivial,ah _,trivial,trivial, .inl ⟨by omega,rfl,rfl⟩⟩
def FJ (a b:List Tm):Nat→Nat
 | 0=>0
 | 1=>a.length
 | _=>a.length+b.length
def Ct (a b:List Tm) (J:List ae):Nat→List ae
 | 0=>J
 | 1=>a.map Tm.aO
 | _=>(a++b).map Tm.aO
theorem Zu6 (a b:List Tm) (ha:a.length<1000000) (hb:b.length<1000000):aJ Tryz.prog 229 [.ps 1 [.ps 2 (a.map Tm.aO), .ps 2 (b.map Tm.aO)]] (.ps 2 ((a++b).map Tm.aO)):=by
 refine aJ.begin (rs:=[.tmp 2]) (m:=35) 1000 Tryz.func229 rfl rfl rfl (by decide) (bQ _) ?_
 have c0:FJ a b 0=0:=rfl
 have c1:FJ a b 1=a.length:=rfl
 have c2:FJ a b 2=a.length+b.length:=rfl
 have kY:((2:Nat):Int)=2:=rfl
 have rG:IntKind.i64.wrap ((1:Int)+1)=((2:Nat):Int):=ek (by omega)
 simp only [go_sem,ax,aR]
 refine aK.c_ (ι:={i:Nat // i≤2}) 1000 (fun q=>fG 36 [(0, .ps 1 [.ps 2 (a.map Tm.aO), .ps 2 (b.map Tm.aO)]),(2, .aU),(3, .int .i64 (FJ a b q.1)),(9, .ps 1 [.ps 2 (a.map Tm.aO), .ps 2 (b.map Tm.aO)]),(10, .int .i64 ((2:Nat):Int)),(11, .int .i64 q.1)])
  (fun _=>[]) (fun q=>2 - q.1) ⟨0,by omega⟩ ?_ (fun _=>av _) ?_
 ·simp only [go_sem,c0,kY,bQ]
 ·rintro ⟨i,hi⟩
  obtain rfl | rfl | rfl:i=0∨i=1∨i=2:=by omega
  ·have hw:IntKind.i64.wrap (a.length:Int)=a.length:=ek (by omega)
   have hn:¬ (a.length:Int)<0:=by omega
   simp only [go_sem,c0,kY,ak,hw,hn,bf]
   exact ⟨⟨1,by omega⟩,⟨⟨rfl,rfl⟩,bQ _,bQ _⟩,by simp only;omega⟩
  ·have hw:IntKind.i64.wrap ((a.length:Int)+b.length)=((a.length+b.length:Nat):Int):=by rw [ek (by omega)];omega
   have hn:¬ ((a.length+b.length:Nat):Int)<0:=by omega
   simp only [go_sem,c1,kY,ak,hw,hn,bf,bB]
   exact ⟨⟨2,by omega⟩,⟨⟨rfl,by rw [rG]⟩,bQ _,bQ _⟩,by simp only;omega⟩
  ·simp only [go_sem,c2,kY,lL]
   refine aK.go 1000 ?_
   simp only [go_sem]
   refine (XF (a.length+b.length) (by omega)).mono ?_
   rintro r σ' (⟨hz,rfl,rfl⟩ | ⟨J,hJ,rfl,rfl⟩)
   ·have Md:a=[]:=aY (by omega)
    have xl:b=[]:=aY (by omega)
    subst Md;subst xl
    refine aK.go 1000 ?_
    simp only [go_sem,aS,ax,aR]
    refine aK.c_ (ι:={i:Nat // i≤2}) 1000 (fun q=>fG 36 [(2, .aU),(6, .aU),(25, .ps 1 [.ps 2 [], .ps 2 []]),(26, .int .i64 ((2:Nat):Int)),(27, .int .i64 q.1)])
     (fun _=>[]) (fun q=>2 - q.1) ⟨0,by omega⟩ ?_ (fun _=>av _) ?_
    ·simp only [go_sem,kY]
    ·rintro ⟨i,hi⟩
     obtain rfl | rfl | rfl:i=0∨i=1∨i=2:=by omega
     ·simp only [go_sem,kY,bf,aR]
      exact ⟨of_eq_true (B9 []),⟨1,by omega⟩,rfl,by simp only;omega⟩
     ·simp only [go_sem,kY,bf,bB,aR]
      exact ⟨of_eq_true (B9 []),⟨2,by omega⟩,by rw [rG],by simp only;omega⟩
     ·simp only [go_sem,kY,lL]
      refine aK.go 1000 ?_
      simp only [go_sem,bn,aS]
   ·refine aK.go 1000 ?_
    simp only [go_sem,ax,aR]
    refine aK.h_ (ι:={i:Nat // i≤2}) 1000 (fun q=>fG 36 [(2, .aU),(6, .os 0 0 (FJ a b q.1) 2),(25, .ps 1 [.ps 2 (a.map Tm.aO), .ps 2 (b.map Tm.aO)]),(26, .int .i64 ((2:Nat):Int)),(27, .int .i64 q.1)])
     (fun q=>[some (.row (Ct a b J q.1) 0)]) (fun q=>2 - q.1) ⟨0,by omega⟩ [] ?_ (fun _=>av _) ?_
    ·refine iP rfl ?_
     simp only [go_sem,kY,c0,show Ct a b J 0=J from rfl,bQ,cD (bQ _),cD hJ,il (av 1) hJ]
    ·rintro ⟨i,hi⟩
     obtain rfl | rfl | rfl:i=0∨i=1∨i=2:=by omega
     ·simp only [go_sem,kY,c0,show Ct a b J 0=J from rfl,bf,ak]
      refine ⟨⟨by omega,by omega⟩,⟨1,by omega⟩,[(0,1),(1,0)],iP rfl ?_,by simp only;omega⟩
      simp only [go_sem,kY,c1,show Ct a b J 1=a.map Tm.aO from rfl,bQ,cD (bQ _)]
     ·simp only [go_sem,kY,c1,show Ct a b J 1=a.map Tm.aO from rfl,bf,bB,ak]
      refine ⟨⟨by omega,by omega⟩,⟨2,by omega⟩,[(0,1),(1,0)],iP rfl ?_,by simp only;omega⟩
      simp only [go_sem,kY,rG,c2,show Ct a b J 2=(a++b).map Tm.aO from rfl,bQ,cD (bQ _),cL]
      have lw:bx 0 (a.map Tm.aO++b.map Tm.aO):=rO (bQ a) (bQ b)
      rw [a_ (by simp),cD lw]
      exact ⟨rfl,il (av 1) lw⟩
     ·simp only [go_sem,kY,c2,show Ct a b J 2=(a++b).map Tm.aO from rfl,lL]
      refine aK.go 1000 ?_
      simp only [go_sem,ak,ay]
      rw [a_ (by simp)]
      exact cE _ _ _
theorem HO:∀ (a b:List Tm) (t:Tm),t∈dS a b→t∈a
 | [],_,t,h=>by rw [dS] at h;cases h
 | x :: a,b,t,h=>by
  rw [dS] at h
  split at h
  ·rcases aQ.1 h with rfl | h
   ·simp
   ·exact cB _ (HO a b t h)
  ·exact cB _ (HO a _ t h)
theorem HQ:∀ (a b:List Tm),(dS a b).length≤a.length
 | [],_=>by rw [dS];exact ah _
 | x :: a,b=>by
  rw [dS]
  split
  ·have:=HQ a b;simp only [ax];omega
  ·have:=HQ a (pk b (dF (fun y=>decide (x=y)) b 0).toNat);simp only [ax];omega
def pG (g:List Sy) (a b:List Tm):Int :=
 if (dS a b).length+(dS b a).length=0 then 0 else if mE g (dS a b) (dS b a)=true then 1 else if mE g (dS b a) (dS a b)=true then -1 else 2
theorem Ykx (g:List Sy) (hg:sW g) (lT:g.length<1000000) (a b:List Tm) (ha:a.length<500000) (hb:b.length<500000) (hs:∀ t∈a++b,t.size<99999999) (j9:ez g (a++b)=0→∀ t∈a++b,jo g t) :
  aJ Tryz.prog 215 [.ps 4 (syms g), .ps 2 (a.map Tm.aO), .ps 2 (b.map Tm.aO)] (.dz [.int .i64 (if ez g (a++b)=0 then pG g a b else 0), .int .i64 (ez g (a++b))]):=by
 refine aJ.begin (rs:=[.tmp 6, .tmp 7]) (m:=40) 1000 Tryz.func215 rfl rfl rfl (by decide) ⟨trivial,trivial,trivial⟩ ?_
 have hw:=Rs g (a++b) (by simp;omega) hs
 have Ay:∀ t∈a,t.size<99999999:=fun t ht=>hs t (by simp [ht])
 have s0:∀ t∈b,t.size<99999999:=fun t ht=>hs t (by simp [ht])
 simp only [go_sem]
 refine aq.bU [0] (Zu6 a b (by omega) (by omega)) ?_ ⟨⟨bQ a,bQ b,trivial⟩,trivial⟩ ?_
 ·simp only [go_sem]
 generalize bO _=fl
 have Ax:∀ σ:ai,aq Tryz.prog (.fn 194 [] []) [.ps 4 (syms g), .ps 2 ((a++b).map Tm.aO)] σ (fun r σ'=>r = .int .i64 (ez g (a++b))∧σ' = σ):=fun σ=>by
  refine aq.bU [] hw (cE _ _ _) ⟨dK _,bQ (a++b),trivial⟩ ?_
  simp only [bO,bX,bW,if_true]
  exact ⟨trivial,trivial⟩
 obtain ⟨fz,El⟩:∃ fz,(if fl=true then [some (bE.row [.ps 2 (a.map Tm.aO), .ps 2 (b.map Tm.aO)] 0)] else fM (among [0]) 0 [some (bE.row [.ps 2 (a.map Tm.aO), .ps 2 (b.map Tm.aO)] 0)])=[some (bE.row [.ps 2 (a.map Tm.aO), .ps 2 (b.map Tm.aO)] fz)]:=by
  cases fl
  ·exact ⟨_,rfl⟩
  ·exact ⟨_,rfl⟩
 rw [El]
 refine aK.go 1000 ?_
 simp only [go_sem]
 refine (Ax _).mono ?_
 rintro r σ' ⟨rfl,rfl⟩
 by_cases h:ez g (a++b)=0
 ·have hk:=j9 h
  have hka:∀ t∈a,jo g t:=fun t ht=>hk t (by simp [ht])
  have hkb:∀ t∈b,jo g t:=fun t ht=>hk t (by simp [ht])
  have l1:=HQ a b
  have l2:=HQ b a
  have m1:∀ t∈dS a b,jo g t:=fun t ht=>hka t (HO _ _ t ht)
  have m2:∀ t∈dS b a,jo g t:=fun t ht=>hkb t (HO _ _ t ht)
  have o1:=T_ g hg lT (dS a b) (dS b a) m1 m2 (by omega) (by omega)
  have o2:=T_ g hg lT (dS b a) (dS a b) m2 m1 (by omega) (by omega)
  refine aK.go 1000 ?_
  rw [if_pos h]
  simp only [go_sem,h]
  refine aq.bU [] (Ti a b (by omega) (by omega) Ay s0) (cE _ _ _) ⟨bQ a,bQ b,trivial⟩ ?_
  rw [jb];simp only [ite_self]
  refine aK.go 1000 ?_
  simp only [go_sem]
  refine aq.bU [] (Ti b a (by omega) (by omega) s0 Ay) (cE _ _ _) ⟨bQ b,bQ a,trivial⟩ ?_
  rw [jb];simp only [ite_self]
  have Gx:pG g a b=if (dS a b).length+(dS b a).length=0 then 0 else if mE g (dS a b) (dS b a)=true then 1 else if mE g (dS b a) (dS a b)=true then -1 else 2:=rfl
  rw [Gx]
  generalize dS a b=x at *
  generalize dS b a=y at *
  have rG:IntKind.i64.wrap ((x.length:Int)+y.length)=((x.length+y.length:Nat):Int):=by rw [ek (by omega)];omega
  refine aK.go 1000 ?_
  by_cases h1:x.length+y.length=0
  ·rw [if_pos h1]
   have h2:((x.length+y.length:Nat):Int)=0:=by omega
   simp only [go_sem,ak,rG,h2]
  ·rw [if_neg h1]
   have h2:¬ ((x.length+y.length:Nat):Int)=0:=by omega
   simp only [go_sem,ak,rG,h2]
   refine aq.bU [] o1 (cE _ _ _) ⟨dK _,bQ x,bQ y,trivial⟩ ?_
   simp only [bO,bX,bW,if_true]
   refine aK.go 1000 ?_
   cases h3:mE g x y
   ·simp only [go_sem,h3]
    refine aq.bU [] o2 (cE _ _ _) ⟨dK _,bQ y,bQ x,trivial⟩ ?_
    simp only [bO,bX,bW,if_true]
    refine aK.go 1000 ?_
    cases h4:mE g y x
    ·simp only [go_sem,h4]
    ·simp only [go_sem,h4]
   ·simp only [go_sem,h3]
 ·refine aK.go 1000 ?_
  rw [if_neg h]
  simp only [go_sem,h]
def yB (g:List Sy) (l:Li):Prop:=jo g l.l∧jo g l.r
def qX (l:Li):Prop:=l.l.size<99999999∧l.r.size<99999999
theorem KG {l:Li} {t:Tm} (h:t∈lI l):t=l.l∨t=l.r:=by
 unfold lI at h
 split at h<;>simp at h<;>rcases h with rfl | rfl<;>simp
theorem Um (l:Li):(lI l).length≤4:=by
 unfold lI;split<;>simp
theorem A2 {g:List Sy} {l:Li} (h:l.check g=0):l.l.term g=0∧l.r.term g=0:=by
 unfold Li.check at h
 by_cases h1:l.l.term g=0
 ·rw [if_neg (by simp [h1])] at h
  by_cases h2:l.r.term g=0
  ·exact ⟨h1,h2⟩
  ·rw [if_pos h2] at h;exact absurd h h2
 ·rw [if_pos h1] at h;exact absurd h h1
theorem Qo {g:List Sy}:∀ {ts:List Tm},(∀ t∈ts,t.term g=0)→ez g ts=0
 | [],_=>rfl
 | t :: ts,h=>by rw [ez,if_pos (h t (by simp))];exact Qo fun x hx=>h x (by simp [hx])
def p8 (g:List Sy) (a b:Li):Int×Int:=if a.check g≠0 then (0,a.check g) else if b.check g≠0 then (0,b.check g) else (pG g (lI a) (lI b),0)
theorem Zub (g:List Sy) (hg:sW g) (lT:g.length<1000000) (a b:Li) (sa:qX a) (sb:qX b) (oa:a.check g=0→yB g a) (ob:b.check g=0→yB g b) :
  aJ Tryz.prog 198 [.ps 4 (syms g),a.aO,b.aO] (.dz [.int .i64 (p8 g a b).1, .int .i64 (p8 g a b).2]):=by
 refine aJ.begin (rs:=[.tmp 6, .tmp 7]) (m:=27) 1000 Tryz.func198 rfl rfl rfl (by decide) ⟨trivial,trivial,trivial⟩ ?_
 have c1:=Ks g a (by have:=sa.1;omega) (by have:=sa.2;omega)
 have c2:=Ks g b (by have:=sb.1;omega) (by have:=sb.2;omega)
 simp only [go_sem,ky]
 refine aq.bU [] c1 (cE _ _ _) ⟨dK _,mR _,trivial⟩ ?_
 simp only [bO,bX,bW,if_true]
 refine aK.go 1000 ?_
 by_cases h1:a.check g=0
 ·simp only [go_sem,h1]
  refine aq.bU [] c2 (cE _ _ _) ⟨dK _,mR _,trivial⟩ ?_
  simp only [bO,bX,bW,if_true]
  refine aK.go 1000 ?_
  by_cases h2:b.check g=0
  ·have hr:p8 g a b=(pG g (lI a) (lI b),0):=by unfold p8;rw [if_neg (by simp [h1]),if_neg (by simp [h2])]
   have sB:=Um a
   have Ap:=Um b
   have jx:∀ t∈lI a++lI b,t.size<99999999∧jo g t∧t.term g=0:=fun t ht=>by
    rcases aW.1 ht with ht | ht
    ·rcases KG ht with rfl | rfl
     ·exact ⟨sa.1,(oa h1).1,(A2 h1).1⟩
     ·exact ⟨sa.2,(oa h1).2,(A2 h1).2⟩
    ·rcases KG ht with rfl | rfl
     ·exact ⟨sb.1,(ob h2).1,(A2 h2).1⟩
     ·exact ⟨sb.2,(ob h2).2,(A2 h2).2⟩
   have hm:=Ykx g hg lT (lI a) (lI b) (by omega) (by omega) (fun t ht=>(jx t ht).1) (fun _ t ht=>(jx t ht).2.1)
   rw [Qo (fun t ht=>(jx t ht).2.2),if_pos rfl] at hm
   rw [hr]
   simp only [go_sem,h2]
   refine aK.draw [] 2 2 mixed rfl rfl (by decide) ?_
   simp only [go_sem,dx]
   refine ny (OU a) (cE _ _ _) ⟨mR _,trivial⟩ ?_
   simp only [go_sem]
   refine ny (OU b) (cE _ _ _) ⟨mR _,trivial⟩ ?_
   simp only [go_sem]
   refine ny hm (cE _ _ _) ⟨dK _,bQ _,bQ _,trivial⟩ ?_
   simp only [go_sem]
   refine aK.go 1000 ?_
   simp only [go_sem]
  ·have hr:p8 g a b=(0,b.check g):=by unfold p8;rw [if_neg (by simp [h1]),if_pos h2]
   rw [hr]
   simp only [go_sem,h2]
 ·have hr:p8 g a b=(0,a.check g):=by unfold p8;rw [if_pos h1]
  rw [hr]
  simp only [go_sem,h1]
def eS (a b:Li):Bool:=decide (a.neg=b.neg)&&pv a b
def rT (l:List Li) (i:Nat):List Li:=l.take i++l.drop (i+1)
def eC:List Li→List Li→List Li
 | [],_=>[]
 | t :: a,b=>if dF (fun x=>eS t x) b 0<0 then t :: eC a b else eC a (rT b (dF (fun x=>eS t x) b 0).toNat)
def ug (t:Li):Option bE:=some (.var [.bool t.neg, .int .i64 t.l.head, .ps 2 (t.l.args.map Tm.aO), .int .i64 t.r.head, .ps 2 (t.r.args.map Tm.aO)])
def wF:Option bE:=some (.var [.fn 65 [] []])
theorem Y0 (o1 o2 o3:Option bE) (t x:Li) (hs:bt 5 [wF,o1,o2,o3,ug t]) (ht:qX t) (hx:qX x) :
  aq Tryz.prog (.fn 214 [] [.ptr 0 0, .ptr 4 0]) [x.aO] [wF,o1,o2,o3,ug t] (fun r σ'=>r = .bool (eS t x)∧σ'=[wF,o1,o2,o3,ug t]):=by
 unfold wF ug at hs ⊢
 refine aq.begin (rs:=[.tmp 4]) (m:=6) 1000 Tryz.func214 rfl rfl rfl rfl rfl ?_
 have h:=TD t x ⟨by have:=ht.1;omega,by have:=ht.2;omega⟩ ⟨by have:=hx.1;omega,by have:=hx.2;omega⟩
 simp only [go_sem,ky]
 refine aq.bU [] h (cE _ _ _) ⟨mR _,mR _,trivial⟩ ?_
 simp only [bO,bX,bW,if_true]
 refine aK.go 1000 ?_
 simp only [go_sem]
 rw [fL]
 exact ⟨[wF,o1,o2,o3,ug t],by simp [wF,ug,go_sem,SZ],by simp,hs,trivial,rfl,rfl⟩
theorem TQ (a b:List Li) (xl:b≠[]) (ha:a.length<1000000) (hb:b.length<1000000) (Ay:∀ t∈a,qX t) (s0:∀ t∈b,qX t):aJ Tryz.prog 196 [.ps 5 (lits a), .ps 5 (lits b), .fn 65 [] []] (.ps 5 (lits (eC a b))):=by
 refine aJ.begin (rs:=[.tmp 6]) (m:=33) 1000 Tryz.func196 rfl rfl rfl (by decide) (cr _) ?_
 simp only [go_sem]
 refine aq.sI [] (Hs b xl (by omega)) (cE _ _ _) ⟨cr _,trivial⟩ ?_
 rw [jb]
 simp only [zO,zQ,zU,w_,zW,up,cD (cr _)]
 refine aK.go 1000 ?_
 simp only [go_sem,fP]
 refine aK.h_ (ι:={q:Nat×List Li×List Li // q.1≤a.length∧q.2.1++eC (a.drop q.1) q.2.2=eC a b∧q.2.1.length≤q.1∧q.2.2.length≤b.length∧∀ x∈q.2.2,qX x}) 1000
  (fun q=>fG 36 [(5, .ptr 0 0),(6, .aU),(7, .os 2 0 q.1.2.2.length 5),(8,i_ 3 5 (lits q.1.2.1)),(14, .ps 5 (lits a)),(15, .int .i64 a.length),(16, .int .i64 q.1.1)])
  (fun q=>[wF,none,some (.row (lits q.1.2.2) 0),eV (lits q.1.2.1)]) (fun q=>a.length - q.1.1) ⟨(0,[],b),by simpa using s0⟩ [] ?_ (fun _=>av _) ?_
 ·refine iP rfl ?_
  unfold wF
  simp only [go_sem,cr,cD (cr _),show lits []=[] from rfl,uD,tz]
 ·rintro ⟨⟨i,L,c⟩,hi,aP,Af,gK,sw⟩
  simp only at hi aP Af gK sw
  by_cases bD:(i:Int)<a.length
  ·have aZ:i<a.length:=by omega
   have hw:IntKind.i64.wrap ((i:Int)+1)=((i+1:Nat):Int):=by rw [ek (by omega)];omega
   have rE:=tu aZ
   have ru:=Ay _ (aE aZ)
   rw [ao aZ,eC] at aP
   generalize a[i]=t at *
   have iJ:bt 5 [wF,none,some (bE.row (lits c) 0),eV (lits L),ug t]:=⟨⟨⟨trivial,trivial⟩,trivial⟩,trivial,cr c,zM _ (cr L),⟨trivial,trivial,bQ _,trivial,bQ _,trivial⟩,trivial⟩
   have Gh:=Qz [wF,none,some (bE.row (lits c) 0),eV (lits L),ug t] (b:=2) (.fn 214 [] [.ptr 0 0, .ptr 4 0]) (fun x=>eS t x) c rfl (by omega) iJ (by simp [go_sem]) (fun j hj=>Y0 none _ _ t c[j] iJ ru (sw _ (aE hj)))
   unfold wF ug at Gh
   unfold wF
   simp only [go_sem,bD,fP,rE,ky]
   refine ⟨by omega,?_⟩
   refine Gh.mono ?_
   rintro r σ' ⟨rfl,rfl⟩
   rcases Hv (fun x=>eS t x) c 0 (by omega) with ⟨q1,_⟩ | ⟨k,q1,q2,_⟩
   ·rw [q1] at aP ⊢
    rw [if_pos (by omega)] at aP
    refine aK.go 1000 ?_
    simp only [go_sem,Int.reduceNeg,Int.reduceLT]
    have h2:bG [some (bE.var [.fn 65 [] []]),none,some (bE.row (lits c) 0),eV (lits L),some (bE.var [.bool t.neg, .int .i64 t.l.head, .ps 2 (t.l.args.map Tm.aO), .int .i64 t.r.head, .ps 2 (t.r.args.map Tm.aO)]),some (bE.row [.agg [.bool t.neg, .int .i64 t.l.head, .ps 2 (t.l.args.map Tm.aO), .int .i64 t.r.head, .ps 2 (t.r.args.map Tm.aO)]] 0)] 3=eV (lits L):=rfl
    have BH:lits [t]=[.agg [.bool t.neg, .int .i64 t.l.head, .ps 2 (t.l.args.map Tm.aO), .int .i64 t.r.head, .ps 2 (t.r.args.map Tm.aO)]]:=rfl
    have nD:=of_eq_true (LF [t])
    rw [BH] at nD
    simp only [go_sem,uO h2,nD,fP,hw]
    refine ⟨by omega,⟨(i+1,L++[t],c),by simp only;omega,by rw [← aP];simp,by simp only [ay,ax,aR];omega,gK,sw⟩,[(3,6),(6,3)],iP rfl ?_,by simp only;omega⟩
    have lw:bx 0 (lits (L++[t])):=cr _
    have sB:lits (L++[t])=lits L++[.agg [.bool t.neg, .int .i64 t.l.head, .ps 2 (t.l.args.map Tm.aO), .int .i64 t.r.head, .ps 2 (t.r.args.map Tm.aO)]]:=by rw [← BH];simp [lits]
    dsimp only
    rw [sB] at lw ⊢
    rw [Fg,E6]
    simp only [go_sem,cr,cD (cr _),cD lw,il (av 4) lw,fP]
   ·have CS:(0:Int)+k=k:=by omega
    rw [q2,CS] at aP ⊢
    rw [if_neg (by omega),b_] at aP
    have M3:¬ (k:Int)<0:=by omega
    have Ez:IntKind.i64.wrap ((k:Int)+1)=((k+1:Nat):Int):=by rw [ek (by omega)];omega
    refine aK.go 1000 ?_
    simp only [go_sem,M3,Ez]
    refine aq.z6 (f:=.fn 71 [] []) (args:=[.os 0 0 c.length 5, .int .i64 k, .int .i64 ((k+1:Nat):Int)]) (B:=.row (lits c) 0) 2 rfl (cr _) ⟨trivial,trivial⟩ ⟨cm,trivial,trivial,trivial⟩ ((J2 c k q1 (by omega)).mono ?_)
    rintro r σ' ⟨rfl,rfl⟩
    refine ⟨cm,_,rfl,cr _,?_⟩
    have xV:(rT c k).length=c.length - 1:=by simp only [rT,ay,cV,cf];omega
    rw [show c.take k++c.drop (k+1)=rT c k from rfl,← xV]
    simp only [go_sem,cZ,de]
    refine aK.go 1000 ?_
    simp only [go_sem,hw]
    refine ⟨⟨(i+1,L,rT c k),by simp only;omega,aP,by simp only;omega,by simp only;omega,fun x hx=>?_⟩,[],iP rfl ?_,by simp only;omega⟩
    ·rcases aW.1 hx with hx | hx
     ·exact sw x (lO hx)
     ·exact sw x (List.mem_of_mem_drop hx)
    simp only [go_sem,cr,cD (cr _),Hz (cr L)]
  ·have dP:i=a.length:=by omega
   subst dP
   rw [aV,eC,bn] at aP
   unfold wF
   simp only [go_sem,bD]
   refine aK.go 1000 ?_
   simp only [go_sem]
   rw [← aP,rQ rfl rfl];trivial
def y_ (g:List Sy) (a b:Li):Bool:=decide ((p8 g a b).2=0)&&decide ((p8 g a b).1=1)
def uU (g:List Sy):ae:=.fn 197 [] [.pp [.ps 4 (syms g)]]
@[go_sem] theorem Fv {n:Nat} (g:List Sy):ae.low n (uU g)=True:=eq_true ⟨trivial,⟨⟨dK _,trivial⟩,trivial⟩⟩
@[go_sem] theorem Yzl {π:Nat→Nat} (g:List Sy):dG π (uU g)=uU g:=zK (of_eq_true (Fv g))
def pE (g:List Sy) (l:Li):Prop:=qX l∧(l.check g=0→yB g l)
theorem Zt2 (g:List Sy) (hg:sW g) (lT:g.length<1000000) (a b:Li) (ha:pE g a) (hb:pE g b) :
  aJ Tryz.prog 197 [a.aO,b.aO, .pp [.ps 4 (syms g)]] (.bool (y_ g a b)):=by
 refine aJ.begin (rs:=[.tmp 5]) (m:=18) 1000 Tryz.func197 rfl rfl rfl (by decide) trivial ?_
 have h:=Zub g hg lT a b ha.1 hb.1 ha.2 hb.2
 unfold y_
 generalize p8 g a b=z at *
 simp only [go_sem,ky]
 refine aq.bU [] h (cE _ _ _) ⟨dK _,mR _,mR _,trivial⟩ ?_
 rw [jb];simp only [ite_self]
 refine aK.go 1000 ?_
 by_cases h1:z.2=0
 ·simp only [go_sem,h1,decide_true,ct]
 ·simp only [go_sem,h1,decide_false,db]
theorem Xr (g:List Sy) (hg:sW g) (lT:g.length<1000000) (x y:Li) (hx:pE g x) (hy:pE g y) :
  aq Tryz.prog (.fn 217 [] [.ptr 0 0, .ptr 1 0]) [x.aO] [some (.var [uU g]),ug y] (fun r σ'=>r = .bool (y_ g x y)∧σ'=[some (.var [uU g]),ug y]):=by
 unfold ug
 refine aq.begin (rs:=[.tmp 4]) (m:=6) 1000 Tryz.func217 rfl rfl rfl rfl rfl ?_
 have h:=Zt2 g hg lT x y hx hy
 simp only [go_sem,ky,uU]
 refine aq.bU [] h (cE _ _ _) ⟨mR _,mR _,⟨dK _,trivial⟩,trivial⟩ ?_
 simp only [bO,bX,bW,if_true]
 refine aK.go 1000 ?_
 simp only [go_sem]
 rw [fL]
 exact ⟨[some (.var [uU g]),ug y],by simp [ug,uU,go_sem],by simp,⟨⟨of_eq_true (Fv g),trivial⟩,⟨trivial,trivial,bQ _,trivial,bQ _,trivial⟩,trivial⟩,trivial,rfl,rfl⟩
def kl (g:List Sy) (a:List Li):List Li→Bool
 | []=>decide (0<a.length)
 | y :: b=>if a.any (fun x=>y_ g x y)=true then kl g a b else false
theorem Ua (g:List Sy) (hg:sW g) (lT:g.length<1000000) (a b:List Li) (ha:a.length<1000000) (hb:b.length<1000000) (sB:∀ x∈a,pE g x) (Ap:∀ x∈b,pE g x) :
  aJ Tryz.prog 199 [.ps 5 (lits a), .ps 5 (lits b),uU g] (.bool (kl g a b)):=by
 refine aJ.begin (rs:=[.tmp 6]) (m:=20) 1000 Tryz.func199 rfl rfl rfl (by decide) trivial ?_
 have gc:(uU g).cells=[uU g]:=rfl
 have gi:(uU g).cF=true:=rfl
 simp only [go_sem,fP,gc,gi]
 refine aK.c_ (ι:={i:Nat // i≤b.length∧kl g a (b.drop i)=kl g a b}) 1000 (fun q=>fG 23 [(0, .ps 5 (lits a)),(5, .ptr 0 0),(6, .bool false),(9, .ps 5 (lits b)),(10, .int .i64 b.length),(11, .int .i64 q.1)])
  (fun _=>[some (.var [uU g])]) (fun q=>b.length - q.1) ⟨0,by simp⟩ ?_ (fun _=>av _) ?_
 ·simp only [go_sem,cr]
 ·rintro ⟨i,hi,aP⟩
  by_cases bD:(i:Int)<b.length
  ·have aZ:i<b.length:=by omega
   have hw:IntKind.i64.wrap ((i:Int)+1)=((i+1:Nat):Int):=by rw [ek (by omega)];omega
   have rE:=tu aZ
   have hyo:=Ap _ (aE aZ)
   rw [ao aZ,kl] at aP
   generalize b[i]=y at *
   have iJ:bt 2 [some (bE.var [uU g]),ug y]:=⟨⟨of_eq_true (Fv g),trivial⟩,⟨trivial,trivial,bQ _,trivial,bQ _,trivial⟩,trivial⟩
   have hc:=Ha [some (bE.var [uU g]),ug y] (.fn 217 [] [.ptr 0 0, .ptr 1 0]) (fun x=>y_ g x y) a (by omega) iJ (by simp [go_sem]) (fun j hj=>Xr g hg lT a[j] y (sB _ (aE hj)) hyo)
   unfold ug at hc
   simp only [go_sem,bD,fP,rE,ky]
   refine ⟨by omega,?_⟩
   refine hc.mono ?_
   rintro r σ' ⟨rfl,rfl⟩
   cases h3:a.any (fun x=>y_ g x y)
   ·rw [h3] at aP
    simp only [a8,if_false] at aP
    refine aK.go 1000 ?_
    simp only [go_sem]
    refine aK.go 1000 ?_
    simp only [go_sem,← aP]
   ·rw [h3,if_pos rfl] at aP
    refine aK.go 1000 ?_
    simp only [go_sem,hw]
    refine ⟨⟨i+1,by omega,aP⟩,?_,by simp only;omega⟩
    simp only [go_sem,cr]
  ·have dP:i=b.length:=by omega
   subst dP
   rw [aV,kl] at aP
   simp only [go_sem,bD]
   refine aK.go 1000 ?_
   simp only [go_sem,fP,← aP]
   exact congrArg ae.bool (decide_eq_decide.2 (by omega))
def oK (g:List Sy) (a b:List Li):Int×Int :=
 if bd g a≠0 then (0,bd g a) else if bd g b≠0 then (0,bd g b) else
 if (eC a b).length+(eC b a).length=0 then (0,0) else if kl g (eC a b) (eC b a)=true then (1,0) else if kl g (eC b a) (eC a b)=true then (-1,0) else (2,0)
theorem HC:∀ (a b:List Li) (t:Li),t∈eC a b→t∈a
 | [],_,t,h=>by rw [eC] at h;cases h
 | x :: a,b,t,h=>by
  rw [eC] at h
  split at h
  ·rcases aQ.1 h with rfl | h
   ·simp
   ·exact cB _ (HC a b t h)
  ·exact cB _ (HC a _ t h)
theorem HD:∀ (a b:List Li),(eC a b).length≤a.length
 | [],_=>by rw [eC];exact ah _
 | x :: a,b=>by
  rw [eC]
  split
  ·have:=HD a b;simp only [ax];omega
  ·have:=HD a (rT b (dF (fun y=>eS x y) b 0).toNat);simp only [ax];omega
theorem Ztb (g:List Sy) (hg:sW g) (lT:g.length<1000000) (a b:List Li) (Md:a≠[]) (xl:b≠[]) (ha:a.length<500000) (hb:b.length<500000) (sB:∀ x∈a,pE g x) (Ap:∀ x∈b,pE g x) :
  aJ Tryz.prog 172 [.ps 4 (syms g), .ps 5 (lits a), .ps 5 (lits b)] (.dz [.int .i64 (oK g a b).1, .int .i64 (oK g a b).2]):=by
 refine aJ.begin (rs:=[.tmp 6, .tmp 7]) (m:=46) 1000 Tryz.func172 rfl rfl rfl (by decide) ⟨trivial,trivial,trivial⟩ ?_
 have k1:=E0 g a (fun i h=>by have:=(sB _ (aE h)).1;exact ⟨by have:=this.1;omega,by have:=this.2;omega⟩)
 have k2:=E0 g b (fun i h=>by have:=(Ap _ (aE h)).1;exact ⟨by have:=this.1;omega,by have:=this.2;omega⟩)
 simp only [go_sem]
 refine aq.bU [] k1 (cE _ _ _) ⟨dK _,cr _,trivial⟩ ?_
 simp only [bO,bX,bW,if_true]
 refine aK.go 1000 ?_
 by_cases h1:bd g a=0
 ·simp only [go_sem,h1]
  refine aq.bU [] k2 (cE _ _ _) ⟨dK _,cr _,trivial⟩ ?_
  simp only [bO,bX,bW,if_true]
  refine aK.go 1000 ?_
  by_cases h2:bd g b=0
  ·have hr:oK g a b=if (eC a b).length+(eC b a).length=0 then (0,0) else if kl g (eC a b) (eC b a)=true then (1,0) else if kl g (eC b a) (eC a b)=true then (-1,0) else (2,0):=by
    unfold oK;rw [if_neg (by simp [h1]),if_neg (by simp [h2])]
   have VB:∀ t∈a,qX t:=fun t ht=>(sB t ht).1
   have VC:∀ t∈b,qX t:=fun t ht=>(Ap t ht).1
   have l1:=HD a b
   have l2:=HD b a
   have m1:∀ t∈eC a b,pE g t:=fun t ht=>sB t (HC _ _ t ht)
   have m2:∀ t∈eC b a,pE g t:=fun t ht=>Ap t (HC _ _ t ht)
   have o1:=Ua g hg lT (eC a b) (eC b a) (by omega) (by omega) m1 m2
   have o2:=Ua g hg lT (eC b a) (eC a b) (by omega) (by omega) m2 m1
   rw [hr]
   simp only [go_sem,h2]
   refine aq.bU [] (TQ a b xl (by omega) (by omega) VB VC) (cE _ _ _) ⟨cr _,cr _,⟨trivial,trivial⟩,trivial⟩ ?_
   rw [jb];simp only [ite_self]
   refine aK.go 1000 ?_
   simp only [go_sem]
   refine aq.bU [] (TQ b a Md (by omega) (by omega) VC VB) (cE _ _ _) ⟨cr _,cr _,⟨trivial,trivial⟩,trivial⟩ ?_
   rw [jb];simp only [ite_self]
   generalize eC a b=x at *
   generalize eC b a=y at *
   have rG:IntKind.i64.wrap ((x.length:Int)+y.length)=((x.length+y.length:Nat):Int):=by rw [ek (by omega)];omega
   refine aK.go 1000 ?_
   by_cases h3:x.length+y.length=0
   ·rw [if_pos h3]
    have h4:((x.length+y.length:Nat):Int)=0:=by omega
    simp only [go_sem,fP,rG,h4]
   ·rw [if_neg h3]
    have h4:¬ ((x.length+y.length:Nat):Int)=0:=by omega
    simp only [go_sem,fP,rG,h4]
    refine aq.sH (b:=0) (cs:=[.ps 4 (syms g)]) [] rfl o1 (cE _ _ _) ⟨cr _,cr _,of_eq_true (Fv g),trivial⟩ rfl ?_
    refine aK.go 1000 ?_
    cases h5:kl g x y
    ·simp only [go_sem,h5]
     refine aq.sH (b:=0) (cs:=[.ps 4 (syms g)]) [] rfl o2 (cE _ _ _) ⟨cr _,cr _,of_eq_true (Fv g),trivial⟩ rfl ?_
     refine aK.go 1000 ?_
     cases h6:kl g y x
     ·simp only [go_sem,h6]
     ·simp only [go_sem,h6]
    ·simp only [go_sem,h5]
  ·have hr:oK g a b=(0,bd g b):=by unfold oK;rw [if_neg (by simp [h1]),if_pos h2]
   rw [hr]
   simp only [go_sem,h2]
 ·have hr:oK g a b=(0,bd g a):=by unfold oK;rw [if_pos h1]
  rw [hr]
  simp only [go_sem,h1]
theorem RS {P:Program} {lo:Ctx} {Q:b9→St→Prop} {k:List KI} {ops:Array Oper} {l:List Oper} {fs:List Fp} {tm:List ae} {σ m:ai} {d:Option Tmp} {g:FuncId} {first captured args args':List ae} {r:ae} {wr:List Nat} {b:Nat} {cs:List ae} (hb:bG m b=some (.var cs)) (hc:aJ P g args' r)
  (hp:kB (among []) (m.set b none) args' ((first++args++captured).map (sV b cs))) (hl:bx 0 args') (CN:bO r=true)
  (h:im P lo Q k ops l fs (put tm d r) (dB wr 0 m σ)):rS P lo Q k ops wr d l fs tm σ m (.fn g first captured) args :=
 ⟨r,m,aq.sH [] hb hc hp hl CN ⟨rfl,rfl⟩,zC wr m 0,h⟩
def nn (g:List Sy) (t:Tm):Bool:=decide (0≤t.head)&&((g[t.head.toNat]?).map Sy.cx).getD false
theorem SD (g:List Sy) (t:Tm) (ht:t.head<g.length):aJ Tryz.prog 168 [t.aO, .pp [.ps 4 (syms g)]] (.bool (nn g t)):=by
 refine aJ.begin (rs:=[.tmp 3]) (m:=13) 1000 Tryz.func168 rfl rfl rfl (by decide) trivial ?_
 unfold nn
 by_cases h : 0≤t.head
 ·have hk:t.head.toNat<g.length:=by omega
  have MG:=xa hk
  have hh:((g[t.head.toNat]?).map Sy.cx).getD false=(g[t.head.toNat]).cx:=by simp [hk]
  simp only [go_sem,ft,h,rj,MG,xb,decide_true,ct,hh]
  exact ht
 ·simp only [go_sem,ft,h,decide_false,db]
def nY (g:List Sy) (u:Un) (t:Tm) (m:List Bd×Bool×Int) (s:Tm×Int) (k q:Int×Int):Tm×Bool :=
 if nn g u.l≠nn g t then (t,false) else if m.2.2≠0∨m.2.1=false then (t,false) else if s.2≠0 then (t,false) else
 if k.2≠0∨k.1≠1 then (t,false) else (s.1,decide (q.2=0)&&decide (q.1 = -1))
theorem Yo (g:List Sy) (u:Un) (t:Tm) (c:List Li) (m:List Bd×Bool×Int) (s:Tm×Int) (k q:Int×Int) (hl:u.l.head<g.length) (ht:t.head<g.length)
  (hM:aJ Tryz.prog 169 [u.l.aO,t.aO] (.dz [.ps 3 (nP m.1), .bool m.2.1, .int .i64 m.2.2]))
  (hA:m.2.2=0→m.2.1=true→aJ Tryz.prog 170 [.ps 3 (nP m.1),u.r.aO] (.dz [s.1.aO, .int .i64 s.2]))
  (hK:m.2.2=0→m.2.1=true→s.2=0→aJ Tryz.prog 171 [.ps 4 (syms g),t.aO,s.1.aO] (.dz [.int .i64 k.1, .int .i64 k.2]))
  (hC:m.2.2=0→m.2.1=true→s.2=0→k.2=0→k.1=1→aJ Tryz.prog 172 [.ps 4 (syms g), .ps 5 (lits [⟨false,t,s.1⟩]), .ps 5 (lits c)] (.dz [.int .i64 q.1, .int .i64 q.2])) :
  aJ Tryz.prog 141 [.ps 4 (syms g),u.aO,t.aO, .ps 5 (lits c)] (.dz [(nY g u t m s k q).1.aO, .bool (nY g u t m s k q).2]):=by
 refine aJ.begin (rs:=[.cell 8 70, .tmp 9]) (m:=80) 1000 Tryz.func141 rfl rfl rfl (by decide) ⟨dC _,trivial,trivial⟩ ?_
 have t1:=SD g u.l hl
 have t2:=SD g t ht
 have e1:sV 0 [.ps 4 (syms g)] (.ptr 0 0) = .pp [.ps 4 (syms g)]:=by simp [sV,xK]
 simp only [go_sem,D3,ft]
 refine aK.draw [] 4 4 mixed rfl rfl (by decide) ?_
 simp only [go_sem,dx]
 refine RS (b:=0) (cs:=[.ps 4 (syms g)]) rfl t1 (by simp only [dc];exact cE _ _ _) ⟨dC _,⟨dK _,trivial⟩,trivial⟩ rfl ?_
 simp only [go_sem]
 refine RS (b:=0) (cs:=[.ps 4 (syms g)]) rfl t2 (by simp only [dc];exact cE _ _ _) ⟨dC _,⟨dK _,trivial⟩,trivial⟩ rfl ?_
 obtain ⟨z,hz⟩:∃ z,nY g u t m s k q=z:=⟨_,rfl⟩
 rw [hz]
 unfold nY at hz
 generalize nn g u.l=p1 at *
 generalize nn g t=p2 at *
 by_cases hp:p1=p2
 ·subst hp
  rw [if_neg (by simp)] at hz
  have M_:(p1==p1)=true:=by simp
  simp only [go_sem,M_]
  refine aK.go 1000 ?_
  simp only [go_sem]
  refine aq.bU [] hM (by simp only [dc];exact cE _ _ _) ⟨dC _,dC _,trivial⟩ ?_
  rw [jb];simp only [ite_self]
  refine aK.go 1000 ?_
  by_cases c1:m.2.2=0
  ·cases c2:m.2.1 with
   | false =>
    rw [if_pos (.inr c2)] at hz
    subst hz
    simp only [go_sem,c1]
    rw [dc]
    exact cE _ _ _
   | true =>
    rw [if_neg (by simp [c1,c2])] at hz
    simp only [go_sem,c1]
    refine aq.bU [] (hA c1 c2) (by simp only [dc];exact cE _ _ _) ⟨of_eq_true (Ea _),dC _,trivial⟩ ?_
    rw [jb];simp only [ite_self]
    refine aK.go 1000 ?_
    by_cases c3:s.2=0
    ·rw [if_neg (by simp [c3])] at hz
     simp only [go_sem,c3,ft]
     refine aq.bU [] (hK c1 c2 c3) (by simp only [dc];exact cE _ _ _) ⟨dK _,dC _,dC _,trivial⟩ ?_
     rw [jb];simp only [ite_self]
     refine aK.go 1000 ?_
     by_cases c4:k.2=0
     ·by_cases c5:k.1=1
      ·rw [if_neg (by simp [c4,c5])] at hz
       subst hz
       simp only [go_sem,c4,c5]
       refine aq.bU [5] (hC c1 c2 c3 c4 c5) ?_ ⟨dK _,cr _,cr _,trivial⟩ ?_
       ·simp only [go_sem,lits,aF,aS]
        exact vR _ _ (.agg _)
       rw [show bO (ae.dz [.int .i64 q.1, .int .i64 q.2])=true from rfl]
       simp only [if_true]
       refine aK.go 1000 ?_
       by_cases c6:q.2=0
       ·simp only [go_sem,c6,decide_true,ct,ft]
        rw [dc]
        exact cE _ _ _
       ·simp only [go_sem,c6,decide_false,db,ft]
        rw [dc]
        exact cE _ _ _
      ·rw [if_pos (.inr c5)] at hz
       subst hz
       simp only [go_sem,c4,c5]
       rw [dc]
       exact cE _ _ _
     ·rw [if_pos (.inl c4)] at hz
      subst hz
      simp only [go_sem,c4]
      rw [dc]
      exact cE _ _ _
    ·rw [if_pos c3] at hz
     subst hz
     simp only [go_sem,c3,ft]
     rw [dc]
     exact cE _ _ _
  ·rw [if_pos (.inl c1)] at hz
   subst hz
   simp only [go_sem,c1]
   rw [dc]
   exact cE _ _ _
 ·rw [if_pos hp] at hz
  subst hz
  have M_:(p1==p2)=false:=by simpa using hp
  simp only [go_sem,M_]
  refine aK.go 1000 ?_
  simp only [go_sem,dc]
end Go.Proofs
namespace Go.Proofs
open Go Go.c8
theorem Ykv {g:List Sy} {h:Int} (h0 : 0≤h) (h1:h<g.length):zZ g h=(lx g h).arity:=by
 have hk:h.toNat<g.length:=by omega
 simp [zZ,lx,List.getD,hk]
mutual
theorem Sw (g:List Sy):∀ t:Tm,t.good=true→t.known g=true→t.BL g∧t.Co g
 | .mk h ts,hg,hk=>by
  rw [Tm.good] at hg
  rw [Tm.known] at hk
  simp only [aD,bT,cA,bY,decide_eq_true_eq,decide_eq_false_iff_not,eW] at hg hk
  rw [Tm.BL,Tm.Co]
  by_cases hn:h<0
  ·have ru:ts=[]:=by
    have:=hg.1.1.1.1
    rcases this with h1 | h1
    ·exact absurd hn h1
    ·exact aY (by omega)
   subst ru
   exact ⟨⟨by omega,trivial⟩,fun h0=>by omega,trivial⟩
  ·rcases hk with hk | ⟨⟨k1,k2⟩,k3⟩
   ·exact absurd hk hn
   ·obtain ⟨a1,a2⟩:=Rn g ts hg.2 k3
    exact ⟨⟨by omega,a1⟩,fun h0=>by rw [Ykv h0 (by omega)];exact k2,a2⟩
theorem Rn (g:List Sy):∀ ts:List Tm,Tm.fT ts=true→Tm.gN g ts=true→Tm.yy g ts∧Tm.xD g ts
 | [],_,_=>⟨trivial,trivial⟩
 | t :: ts,hg,hk=>by
  rw [Tm.fT] at hg
  rw [Tm.gN] at hk
  simp only [aD] at hg hk
  obtain ⟨a1,a2⟩:=Sw g t hg.1 hk.1
  obtain ⟨b1,b2⟩:=Rn g ts hg.2 hk.2
  exact ⟨⟨a1,b1⟩,a2,b2⟩
end
theorem sm {t:Tm} (h:t.check=0):t.size≤400∧t.depth≤40∧t.good=true:=by
 unfold Tm.check at h
 by_cases h1 : 400<t.size
 ·rw [if_pos h1] at h;cases h
 ·rw [if_neg h1] at h
  by_cases h2 : 40<t.depth
  ·rw [if_pos h2] at h;cases h
  ·rw [if_neg h2] at h
   cases h3:t.good with
   | false=>rw [h3] at h;simp at h
   | true=>exact ⟨by omega,by omega,rfl⟩
theorem HR {g:List Sy} {t:Tm} (h:t.term g=0) (hf:t.fit):jo g t:=by
 obtain ⟨h1,h2,_⟩:=oH h
 obtain ⟨c1,_,c3⟩:=sm h1
 obtain ⟨a1,a2⟩:=Sw g t c3 h2
 exact ⟨by omega,a1,a2,hf⟩
theorem Zb (bs:List Bd) (N:Nat) (hN : 1≤N) (hb:∀ b∈bs,b.t.size≤N):∀ t:Tm,t.head<0→t.args=[]→(t.sub bs).size≤N
 | .mk h ts,h0,h1=>by
  rw [N1 h0,pR]
  cases hf:bs.find? (fun b=>b.v == -1 - (Tm.mk h ts).head) with
  | some b=>exact hb b (bI hf)
  | none =>
   simp only [j8,ep]
   rw [ov,h1];simp [Tm.bF];omega
mutual
theorem Kr (bs:List Bd) (N:Nat) (hN : 1≤N) (hb:∀ b∈bs,b.t.size≤N):∀ t:Tm,t.good=true→(t.sub bs).size≤t.size*N
 | .mk h ts,hg=>by
  rw [Tm.good] at hg
  simp only [aD,bT,cA,decide_eq_false_iff_not,eW] at hg
  by_cases hn:h<0
  ·have ru:ts=[]:=by
    rcases hg.1.1.1.1 with h1 | h1
    ·exact absurd hn h1
    ·exact aY (by omega)
   have:=Zb bs N hN hb (.mk h ts) hn ru
   have hs:(Tm.mk h ts).size=1:=by rw [ov];simp [Tm.args,ru,Tm.bF]
   rw [hs];omega
  ·rw [Tm.sub,if_neg hn,Tm.size,Tm.size,bH]
   have:=QK bs N hN hb ts hg.2
   omega
theorem QK (bs:List Bd) (N:Nat) (hN : 1≤N) (hb:∀ b∈bs,b.t.size≤N):∀ ts:List Tm,Tm.fT ts=true→Tm.bF (Tm.rM bs ts)≤Tm.bF ts*N
 | [],_=>by simp [Tm.rM,Tm.bF]
 | t :: ts,hg=>by
  rw [Tm.fT] at hg
  simp only [aD] at hg
  rw [Tm.rM,Tm.bF,Tm.bF,bH]
  have a1:=Kr bs N hN hb t hg.1
  have a2:=QK bs N hN hb ts hg.2
  omega
end
theorem Yq4 {g:List Sy} (h:fV g=true):sW g∧g.length≤256:=by
 unfold fV at h
 simp only [aD,bT,cA,decide_eq_false_iff_not,bp,cu] at h
 obtain ⟨⟨⟨h1,h2⟩,h3⟩,_⟩:=h
 refine ⟨fun s hs=>?_,by omega⟩
 obtain ⟨i,hi,rfl⟩:=lM.1 hs
 have h4:=h3 i hi
 unfold ui at h4
 rw [Fl hi] at h4
 simp only [aD,Sy.right,bT,cA,decide_eq_false_iff_not] at h4
 omega
theorem JK {g:List Sy} {t:Tm} (h:t.term g=0):fV g=true:=by
 unfold Tm.term at h
 cases hs:fV g with
 | false=>rw [hs] at h;simp at h
 | true=>rfl
theorem Ra {g:List Sy} {l:Li} (hs:qX l) (hf:l.l.fit∧l.r.fit):pE g l:=⟨hs,fun h=>⟨HR (A2 h).1 hf.1,HR (A2 h).2 hf.2⟩⟩
theorem Ylu {t:Tm} {i:Nat} (h:i<t.args.length) (p:List Int):t.pf ((i:Int) :: p)=(t.args[i]).pf p:=by
 rw [Tm.pf,if_neg (by omega)]
 simp [h]
mutual
theorem H4:∀ (t:Tm) (q p:List Int),p∈t.gJ q→∃ p',p=q++p'∧p'.length<t.size∧∃ v,t.pf p'=some v∧v.size≤t.size
 | .mk h ts,q,p,hp=>by
  rw [Tm.gJ] at hp
  rcases aQ.1 hp with rfl | hp
  ·exact ⟨[],by simp,by rw [Tm.size];simp only [aR];omega,_,rfl,ah _⟩
  ·obtain ⟨j,hj,p',rfl,h1,v,h2,h3⟩:=R7 ts q 0 p hp
   have h4:=sT (aE hj)
   refine ⟨((j:Int)) :: p',by simp,?_,v,?_,?_⟩
   ·rw [Tm.size];simp only [ax];omega
   ·rw [Ylu (t:=.mk h ts) hj];exact h2
   ·rw [Tm.size];omega
theorem R7:∀ (ts:List Tm) (q:List Int) (i:Nat) (p:List Int),p∈Tm.kR ts q i→∃ (j:Nat) (hj:j<ts.length) (p':List Int),p=q++(((i+j:Nat):Int) :: p')∧p'.length<(ts[j]).size∧∃ v,(ts[j]).pf p'=some v∧v.size≤(ts[j]).size
 | [],_,_,p,hp=>by rw [Tm.kR] at hp;cases hp
 | t :: ts,q,i,p,hp=>by
  rw [Tm.kR] at hp
  rcases aW.1 hp with hp | hp
  ·obtain ⟨p',rfl,h1,v,h2,h3⟩:=H4 t _ p hp
   exact ⟨0,by simp,p',by simp,h1,v,h2,h3⟩
  ·obtain ⟨j,hj,p',rfl,h1,v,h2,h3⟩:=R7 ts q (i+1) p hp
   exact ⟨j+1,by simpa using hj,p',by rw [show i+1+j=i+(j+1) by omega],by simpa using h1,v,by simpa using h2,by simpa using h3⟩
end
end Go.Proofs
namespace Go.Proofs
open Go Go.c8
attribute [local go_sem] Nat.reduceAdd Nat.reduceSub Nat.reduceMul Nat.reduceLeDiff Nat.reduceEqDiff Nat.reduceBEq Nat.reduceLT Nat.le_refl Int.natCast_zero Nat.sub_zero List.length_map Int.toNat_natCast Int.natCast_one Int.reduceEq Int.reduceLT Int.reduceLE Int.reduceNe Int.sub_zero Int.zero_add Int.toNat_one
def cT (i:Nat) (rt:Bool) (t:Tm):List mP:=(t.gJ []).map fun p=>⟨(i:Int),rt,p,(t.pf p).getD gT⟩
def kL (i:Nat) (l:Li):List mP:=cT i false l.l++cT i true l.r
def cK:List Li→Nat→List mP
 | [],_=>[]
 | l :: c,i=>kL i l++cK c (i+1)
theorem YB (c:List Li) (σ:ai) (hs:bt σ.length σ):aq Tryz.prog (.fn 140 [] []) [.ps 5 (lits c)] σ
  (fun r σ'=>r = .fn 165 [] [.ptr σ.length 0]∧σ' = σ++[some (.var [.ps 5 (lits c)])]):=by
 refine aq.begin (rs:=[.tmp 2]) (m:=3) 1000 Tryz.func140 rfl rfl rfl rfl rfl ?_
 simp only [go_sem]
 rw [Ba,fL]
 exact ⟨_,fx _,by simp,o8 (nx (by simp) hs) ⟨⟨cr _,trivial⟩,trivial⟩,by simp [go_sem],rfl,rfl⟩
def qV (i:Nat) (l:Li) (j:Nat) (R:List mP):List mP:=if j=0 then cT i false l.l++(cT i true l.r++R) else if j=1 then cT i true l.r++R else R
theorem z7 {N:Nat} {l:List ae} (h:bx N l):oI 9 9 l:=fun ρ dJ=>qg ρ N (fun b _=>dJ b (by omega)) l h
theorem z8 {N:Nat} {τ:ai} (h:bt N τ):tC 9 9 τ:=fun ρ dJ x hx=>by
 obtain ⟨i,hi⟩:=List.mem_iff_getElem?.1 hx
 exact Bb ρ N (fun b _=>dJ b (by omega)) x (qs h i x hi)
theorem Rz (c:List Li) (gK:c.length<1000000) (hc:∀ l∈c,l.l.size≤400∧l.r.size≤400) (b0 b1 b2 b3 b4 b5 b6 b8:Option bE) (E:ai) (k0:Nat) (wL:E.length=9) (Bm:bt 9 E)
  (hs:bt 9 [b0,b1,b2,b3,b4,b5,b6,some (.var [.ps 5 (lits c)]),b8])
  (hy:∀ k (h:k<(cK c 0).length),k<k0→aq Tryz.prog (.ld 8) [(cK c 0)[k].aO] [b0,b1,b2,b3,b4,b5,b6,some (.var [.ps 5 (lits c)]),b8] (fun r σ'=>r = .bool true∧σ'=[b0,b1,b2,b3,b4,b5,b6,some (.var [.ps 5 (lits c)]),b8]))
  (hE:∀ h:k0<(cK c 0).length,aq Tryz.prog (.ld 8) [(cK c 0)[k0].aO] [b0,b1,b2,b3,b4,b5,b6,some (.var [.ps 5 (lits c)]),b8] (fun r σ'=>r = .bool false∧σ'=E)) :
  aq Tryz.prog (.fn 165 [] [.ptr 7 0]) [.ld 8] [b0,b1,b2,b3,b4,b5,b6,some (.var [.ps 5 (lits c)]),b8] (fun _ σ'=>σ'=if k0<(cK c 0).length then E else [b0,b1,b2,b3,b4,b5,b6,some (.var [.ps 5 (lits c)]),b8]):=by
 refine aq.begin (rs:=[]) (m:=52) 1000 Tryz.func165 rfl rfl rfl rfl rfl ?_
 obtain ⟨SP,U0⟩:∃ SP,cK c 0=SP:=⟨_,rfl⟩
 simp only [U0] at hy hE ⊢
 simp only [go_sem,fP]
 refine aK.c_ (ι:={q:Nat×Nat // q.1≤c.length∧q.2≤k0∧SP.drop q.2=cK (c.drop q.1) q.1}) 1000
  (fun q=>fG 54 [(0, .ld 8),(11, .ps 5 (lits c)),(12, .int .i64 c.length),(13, .int .i64 q.1.1)]) (fun _=>[b0,b1,b2,b3,b4,b5,b6,some (.var [.ps 5 (lits c)]),b8]) (fun q=>c.length - q.1.1) ⟨(0,0),by simp [U0]⟩ ?_ (fun _=>ah _) ?_
 ·simp only [go_sem,cr]
  exact hs
 ·rintro ⟨⟨i,k⟩,hi,hk,aP⟩
  simp only at hi hk aP
  by_cases bD:(i:Int)<c.length
  ·have aZ:i<c.length:=by omega
   have hw:IntKind.i64.wrap ((i:Int)+1)=((i+1:Nat):Int):=by rw [ek (by omega)];omega
   have rE:=tu aZ
   have hls:=hc _ (aE aZ)
   rw [ao aZ,cK,kL,cG] at aP
   generalize c[i]=l at *
   simp only [go_sem,bD,fP,rE,ky]
   refine ⟨by omega,?_⟩
   obtain ⟨R,hR⟩:∃ R,cK (c.drop (i+1)) (i+1)=R:=⟨_,rfl⟩
   rw [hR] at aP
   have kY:((2:Nat):Int)=2:=rfl
   refine aK.c_ (ι:={q:Nat×Nat // q.1≤2∧q.2≤k0∧SP.drop q.2=qV i l q.1 R}) 1000
    (fun q=>fG 54 [(0, .ld 8),(3, .int .i64 i),(11, .ps 5 (lits c)),(12, .int .i64 c.length),(13, .int .i64 i),(22, .os 10 0 2 2),(23, .int .i64 ((2:Nat):Int)),(24, .int .i64 q.1.1)])
    (fun _=>[b0,b1,b2,b3,b4,b5,b6,some (.var [.ps 5 (lits c)]),b8,none,some (.row [.agg [.int .i64 l.l.head, .ps 2 (l.l.args.map Tm.aO)], .agg [.int .i64 l.r.head, .ps 2 (l.r.args.map Tm.aO)]] 0)]) (fun q=>2 - q.1.1) ⟨(0,k),by simp only [qV,if_true];exact ⟨by omega,hk,aP⟩⟩ ?_ (fun _=>by simp) ?_
   ·have zm:=nx (show 9≤11 by decide) hs
    simp only [go_sem,cr,bQ]
    exact o8 zm ⟨trivial,⟨⟨trivial,bQ _,trivial⟩,⟨trivial,bQ _,trivial⟩,trivial⟩,trivial⟩
   ·rintro ⟨⟨j,k'⟩,hj,er,qL⟩
    simp only at hj er qL
    have amm:∀ (j:Nat) (rt:Bool) (t:Tm) (T:List mP),True:=fun _ _ _ _=>trivial
    obtain rfl | rfl | rfl:j=0∨j=1∨j=2:=by omega
    ·simp only [qV,if_true] at qL
     have eK:=Pg l.l (by omega)
     simp only [go_sem,kY,bf]
     refine aq.bU [] (eK) (by (try simp only [dc]);exact cE _ _ _) (by simp [go_sem,dC,bQ]) ?_;rw [jb];simp only [ite_self];refine aK.go 1000 ?_
     simp only [go_sem,Eb,y3]
     refine aK.c_ (ι:={q:Nat×Nat // q.1≤l.l.size∧q.2≤k0∧SP.drop q.2=(cT i false l.l).drop q.1++(cT i true l.r++R)}) 1000
      (fun q=>fG 54 [(0, .ld 8),(3, .int .i64 i),(5, .int .i64 0),(6, .ptr 11 0),(11, .ps 5 (lits c)),(12, .int .i64 c.length),(13, .int .i64 i),(22, .os 10 0 2 2),(23, .int .i64 ((2:Nat):Int)),(24, .int .i64 0),(30, .ps 1 (oB (l.l.gJ []))),(31, .int .i64 l.l.size),(32, .int .i64 q.1.1)])
      (fun _=>[b0,b1,b2,b3,b4,b5,b6,some (.var [.ps 5 (lits c)]),b8,none,some (.row [.agg [.int .i64 l.l.head, .ps 2 (l.l.args.map Tm.aO)], .agg [.int .i64 l.r.head, .ps 2 (l.r.args.map Tm.aO)]] 0),some (.var [.int .i64 l.l.head, .ps 2 (l.l.args.map Tm.aO)])]) (fun q=>l.l.size - q.1.1) ⟨(0,k'),by simp only [di];exact ⟨av _,er,qL⟩⟩ ?_ (fun _=>by simp) ?_
     ·have Nh:=nx (show 9≤12 by decide) hs
      simp only [go_sem,cr,bQ,wC,kY]
      exact o8 Nh ⟨trivial,⟨⟨trivial,bQ _,trivial⟩,⟨trivial,bQ _,trivial⟩,trivial⟩,⟨trivial,bQ _,trivial⟩,trivial⟩
     ·rintro ⟨⟨n,k2⟩,hn,qG,jZ⟩
      simp only at hn qG jZ
      by_cases oQ:(n:Int)<l.l.size
      ·have C1:n<(l.l.gJ []).length:=by rw [y3];omega
       have rH:IntKind.i64.wrap ((n:Int)+1)=((n+1:Nat):Int):=by rw [ek (by omega)];omega
       have Gf:(oB (l.l.gJ [])).getD n .undef = .ps 1 (ints (l.l.gJ [])[n]):=nO C1
       obtain ⟨p',yl,hp2,v,hv,mg⟩:=H4 l.l [] _ (aE C1)
       have GH:n<(cT i false l.l).length:=by simp only [cT,ak];exact C1
       have C_:(cT i false l.l)[n]=⟨(i:Int),false,(l.l.gJ [])[n],(l.l.pf (l.l.gJ [])[n]).getD gT⟩:=by simp [cT]
       rw [bh] at yl
       rw [ao GH,C_,yl,hv,br] at jZ
       rw [yl] at Gf
       have kV:=Jp l.l p' (by omega) (by omega)
       rw [hv,br] at kV
       simp only [go_sem,oQ,Eb,y3,Gf,av]
       refine ⟨by omega,?_⟩
       refine aq.bU [] (kV) (by (try simp only [dc]);exact cE _ _ _) (by simp [go_sem,dC,bQ,du]) ?_;rw [jb];simp only [ite_self];refine aK.go 1000 ?_
       simp only [go_sem,ft,Int.reduceEq]
       have Al:k2<SP.length:=by
        have:=congrArg List.length jZ
        simp only [cf,bj,ax] at this;omega
       rw [ao Al,bj] at jZ
       obtain ⟨e1,e2⟩:=jT jZ
       have yx:bt 13 [none,some (bE.row [.agg [.int .i64 l.l.head, .ps 2 (l.l.args.map Tm.aO)], .agg [.int .i64 l.r.head, .ps 2 (l.r.args.map Tm.aO)]] 0),some (bE.var [.int .i64 l.l.head, .ps 2 (l.l.args.map Tm.aO)]),some (bE.var [.int .i64 v.head, .ps 2 (v.args.map Tm.aO)])] :=
        ⟨trivial,⟨⟨trivial,bQ _,trivial⟩,⟨trivial,bQ _,trivial⟩,trivial⟩,⟨trivial,bQ _,trivial⟩,⟨trivial,bQ _,trivial⟩,trivial⟩
       by_cases sA:k2<k0
       ·have wa:=hy k2 Al sA
        rw [e1] at wa
        refine aK.qw (σ:=[b0,b1,b2,b3,b4,b5,b6,some (.var [.ps 5 (lits c)]),b8]) (τ:=[none,some (bE.row [.agg [.int .i64 l.l.head, .ps 2 (l.l.args.map Tm.aO)], .agg [.int .i64 l.r.head, .ps 2 (l.r.args.map Tm.aO)]] 0),some (bE.var [.int .i64 l.l.head, .ps 2 (l.l.args.map Tm.aO)]),some (bE.var [.int .i64 v.head, .ps 2 (v.args.map Tm.aO)])]) (.bool true) trivial (ah 9) ?_ ?_ hs (z7 (N:=13) ?_) (z8 yx) ?_ yx ?_
        ·exact cy 8
        ·exact ⟨⟨trivial,trivial,du _,trivial,bQ _,trivial⟩,trivial⟩
        ·simp [go_sem,cr,bQ,du,dC,wC]
        ·simp [go_sem,cr,bQ,du,dC,wC]
        refine wa.mono ?_
        rintro r σ' ⟨rfl,rfl⟩
        refine ⟨rfl,ah _,hs,fun b=>b,[b0,b1,b2,b3,b4,b5,b6,some (.var [.ps 5 (lits c)]),b8],rfl,fun _ _=>rfl,fun _ _ _ _ e=>e,?_,hs,?_⟩
        ·have:=zG (π:=fun b=>b) (B:=[b0,b1,b2,b3,b4,b5,b6,some (.var [.ps 5 (lits c)]),b8]) (own:=[]) (τ:=[]) hs (fun _ _=>rfl) trivial
         simpa using this
        ·refine aK.go 1000 ?_
         simp only [go_sem]
         refine ⟨⟨(n+1,k2+1),by simp only;omega,by simp only;omega,by simp only;exact e2⟩,⟨by rw [rH],cr _,o8 (nx (show 9≤12 by decide) hs) ⟨trivial,⟨⟨trivial,bQ _,trivial⟩,⟨trivial,bQ _,trivial⟩,trivial⟩,⟨trivial,bQ _,trivial⟩,trivial⟩⟩,by simp only;omega⟩
       ·have MJ:k2=k0:=by omega
        subst MJ
        have wa:=hE Al
        rw [e1] at wa
        refine aK.qw (σ:=[b0,b1,b2,b3,b4,b5,b6,some (.var [.ps 5 (lits c)]),b8]) (τ:=[none,some (bE.row [.agg [.int .i64 l.l.head, .ps 2 (l.l.args.map Tm.aO)], .agg [.int .i64 l.r.head, .ps 2 (l.r.args.map Tm.aO)]] 0),some (bE.var [.int .i64 l.l.head, .ps 2 (l.l.args.map Tm.aO)]),some (bE.var [.int .i64 v.head, .ps 2 (v.args.map Tm.aO)])]) (.bool false) trivial (ah 9) ?_ ?_ hs (z7 (N:=13) ?_) (z8 yx) ?_ yx ?_
        ·exact cy 8
        ·exact ⟨⟨trivial,trivial,du _,trivial,bQ _,trivial⟩,trivial⟩
        ·simp [go_sem,cr,bQ,du,dC,wC]
        ·simp [go_sem,cr,bQ,du,dC,wC]
        refine wa.mono ?_
        rintro r σ' ⟨rfl,rfl⟩
        refine ⟨rfl,by rw [wL];exact ah _,by rw [wL];exact Bm,fun b=>b,σ',by rw [wL];rfl,fun _ _=>rfl,fun _ _ _ _ e=>e,?_,Bm,?_⟩
        ·have:=zG (π:=fun b=>b) (B:=σ') (own:=[]) (τ:=[]) (by rw [wL];exact Bm) (fun _ _=>rfl) trivial
         simpa using this
        ·rw [if_pos Al]
         refine aK.go 1000 ?_
         simp only [go_sem]
         refine aK.go 1000 ?_
         simp only [go_sem]
         refine aK.go 1000 ?_
         simp only [go_sem]
         refine aK.go 1000 ?_
         simp only [go_sem]
         rw [fL]
         exact ⟨σ',HX _ _,by rw [wL];exact ah _,by rw [wL];exact Bm,trivial,rfl⟩
      ·have Au:n=l.l.size:=by omega
       have yn:(cT i false l.l).length=l.l.size:=by simp only [cT,ak];exact y3 _ _
       have e0:(cT i false l.l).drop n=[]:=fJ (by omega)
       rw [e0,bh] at jZ
       simp only [go_sem,oQ]
       refine aK.go 1000 ?_
       simp only [go_sem]
       refine ⟨⟨(1,k2),by simp only;omega,qG,by simp only [qV];simpa using jZ⟩,?_,by simp only;omega⟩
       exact ⟨⟨rfl,rfl⟩,cr _,o8 (nx (show 9≤11 by decide) hs) ⟨trivial,⟨⟨trivial,bQ _,trivial⟩,⟨trivial,bQ _,trivial⟩,trivial⟩,trivial⟩⟩
    ·have qL:SP.drop k'=cT i true l.r++R:=by simpa [qV] using qL
     have eK:=Pg l.r (by omega)
     simp only [go_sem,kY,bf,bB]
     refine aq.bU [] (eK) (by (try simp only [dc]);exact cE _ _ _) (by simp [go_sem,dC,bQ]) ?_;rw [jb];simp only [ite_self];refine aK.go 1000 ?_
     simp only [go_sem,Eb,y3]
     refine aK.c_ (ι:={q:Nat×Nat // q.1≤l.r.size∧q.2≤k0∧SP.drop q.2=(cT i true l.r).drop q.1++R}) 1000
      (fun q=>fG 54 [(0, .ld 8),(3, .int .i64 i),(5, .int .i64 1),(6, .ptr 11 0),(11, .ps 5 (lits c)),(12, .int .i64 c.length),(13, .int .i64 i),(22, .os 10 0 2 2),(23, .int .i64 ((2:Nat):Int)),(24, .int .i64 1),(30, .ps 1 (oB (l.r.gJ []))),(31, .int .i64 l.r.size),(32, .int .i64 q.1.1)])
      (fun _=>[b0,b1,b2,b3,b4,b5,b6,some (.var [.ps 5 (lits c)]),b8,none,some (.row [.agg [.int .i64 l.l.head, .ps 2 (l.l.args.map Tm.aO)], .agg [.int .i64 l.r.head, .ps 2 (l.r.args.map Tm.aO)]] 0),some (.var [.int .i64 l.r.head, .ps 2 (l.r.args.map Tm.aO)])]) (fun q=>l.r.size - q.1.1) ⟨(0,k'),by simp only [di];exact ⟨av _,er,qL⟩⟩ ?_ (fun _=>by simp) ?_
     ·have Nh:=nx (show 9≤12 by decide) hs
      simp only [go_sem,cr,bQ,wC,kY]
      exact o8 Nh ⟨trivial,⟨⟨trivial,bQ _,trivial⟩,⟨trivial,bQ _,trivial⟩,trivial⟩,⟨trivial,bQ _,trivial⟩,trivial⟩
     ·rintro ⟨⟨n,k2⟩,hn,qG,jZ⟩
      simp only at hn qG jZ
      by_cases oQ:(n:Int)<l.r.size
      ·have C1:n<(l.r.gJ []).length:=by rw [y3];omega
       have rH:IntKind.i64.wrap ((n:Int)+1)=((n+1:Nat):Int):=by rw [ek (by omega)];omega
       have Gf:(oB (l.r.gJ [])).getD n .undef = .ps 1 (ints (l.r.gJ [])[n]):=nO C1
       obtain ⟨p',yl,hp2,v,hv,mg⟩:=H4 l.r [] _ (aE C1)
       have GH:n<(cT i true l.r).length:=by simp only [cT,ak];exact C1
       have C_:(cT i true l.r)[n]=⟨(i:Int),true,(l.r.gJ [])[n],(l.r.pf (l.r.gJ [])[n]).getD gT⟩:=by simp [cT]
       rw [bh] at yl
       rw [ao GH,C_,yl,hv,br] at jZ
       rw [yl] at Gf
       have kV:=Jp l.r p' (by omega) (by omega)
       rw [hv,br] at kV
       simp only [go_sem,oQ,Eb,y3,Gf,av]
       refine ⟨by omega,?_⟩
       refine aq.bU [] (kV) (by (try simp only [dc]);exact cE _ _ _) (by simp [go_sem,dC,bQ,du]) ?_;rw [jb];simp only [ite_self];refine aK.go 1000 ?_
       simp only [go_sem,ft,Int.reduceEq]
       have Al:k2<SP.length:=by
        have:=congrArg List.length jZ
        simp only [cf,bj,ax] at this;omega
       rw [ao Al,bj] at jZ
       obtain ⟨e1,e2⟩:=jT jZ
       have yx:bt 13 [none,some (bE.row [.agg [.int .i64 l.l.head, .ps 2 (l.l.args.map Tm.aO)], .agg [.int .i64 l.r.head, .ps 2 (l.r.args.map Tm.aO)]] 0),some (bE.var [.int .i64 l.r.head, .ps 2 (l.r.args.map Tm.aO)]),some (bE.var [.int .i64 v.head, .ps 2 (v.args.map Tm.aO)])] :=
        ⟨trivial,⟨⟨trivial,bQ _,trivial⟩,⟨trivial,bQ _,trivial⟩,trivial⟩,⟨trivial,bQ _,trivial⟩,⟨trivial,bQ _,trivial⟩,trivial⟩
       by_cases sA:k2<k0
       ·have wa:=hy k2 Al sA
        rw [e1] at wa
        refine aK.qw (σ:=[b0,b1,b2,b3,b4,b5,b6,some (.var [.ps 5 (lits c)]),b8]) (τ:=[none,some (bE.row [.agg [.int .i64 l.l.head, .ps 2 (l.l.args.map Tm.aO)], .agg [.int .i64 l.r.head, .ps 2 (l.r.args.map Tm.aO)]] 0),some (bE.var [.int .i64 l.r.head, .ps 2 (l.r.args.map Tm.aO)]),some (bE.var [.int .i64 v.head, .ps 2 (v.args.map Tm.aO)])]) (.bool true) trivial (ah 9) ?_ ?_ hs (z7 (N:=13) ?_) (z8 yx) ?_ yx ?_
        ·exact cy 8
        ·exact ⟨⟨trivial,trivial,du _,trivial,bQ _,trivial⟩,trivial⟩
        ·simp [go_sem,cr,bQ,du,dC,wC]
        ·simp [go_sem,cr,bQ,du,dC,wC]
        refine wa.mono ?_
        rintro r σ' ⟨rfl,rfl⟩
        refine ⟨rfl,ah _,hs,fun b=>b,[b0,b1,b2,b3,b4,b5,b6,some (.var [.ps 5 (lits c)]),b8],rfl,fun _ _=>rfl,fun _ _ _ _ e=>e,?_,hs,?_⟩
        ·have:=zG (π:=fun b=>b) (B:=[b0,b1,b2,b3,b4,b5,b6,some (.var [.ps 5 (lits c)]),b8]) (own:=[]) (τ:=[]) hs (fun _ _=>rfl) trivial
         simpa using this
        ·refine aK.go 1000 ?_
         simp only [go_sem]
         refine ⟨⟨(n+1,k2+1),by simp only;omega,by simp only;omega,by simp only;exact e2⟩,⟨by rw [rH],cr _,o8 (nx (show 9≤12 by decide) hs) ⟨trivial,⟨⟨trivial,bQ _,trivial⟩,⟨trivial,bQ _,trivial⟩,trivial⟩,⟨trivial,bQ _,trivial⟩,trivial⟩⟩,by simp only;omega⟩
       ·have MJ:k2=k0:=by omega
        subst MJ
        have wa:=hE Al
        rw [e1] at wa
        refine aK.qw (σ:=[b0,b1,b2,b3,b4,b5,b6,some (.var [.ps 5 (lits c)]),b8]) (τ:=[none,some (bE.row [.agg [.int .i64 l.l.head, .ps 2 (l.l.args.map Tm.aO)], .agg [.int .i64 l.r.head, .ps 2 (l.r.args.map Tm.aO)]] 0),some (bE.var [.int .i64 l.r.head, .ps 2 (l.r.args.map Tm.aO)]),some (bE.var [.int .i64 v.head, .ps 2 (v.args.map Tm.aO)])]) (.bool false) trivial (ah 9) ?_ ?_ hs (z7 (N:=13) ?_) (z8 yx) ?_ yx ?_
        ·exact cy 8
        ·exact ⟨⟨trivial,trivial,du _,trivial,bQ _,trivial⟩,trivial⟩
        ·simp [go_sem,cr,bQ,du,dC,wC]
        ·simp [go_sem,cr,bQ,du,dC,wC]
        refine wa.mono ?_
        rintro r σ' ⟨rfl,rfl⟩
        refine ⟨rfl,by rw [wL];exact ah _,by rw [wL];exact Bm,fun b=>b,σ',by rw [wL];rfl,fun _ _=>rfl,fun _ _ _ _ e=>e,?_,Bm,?_⟩
        ·have:=zG (π:=fun b=>b) (B:=σ') (own:=[]) (τ:=[]) (by rw [wL];exact Bm) (fun _ _=>rfl) trivial
         simpa using this
        ·rw [if_pos Al]
         refine aK.go 1000 ?_
         simp only [go_sem]
         refine aK.go 1000 ?_
         simp only [go_sem]
         refine aK.go 1000 ?_
         simp only [go_sem]
         refine aK.go 1000 ?_
         simp only [go_sem]
         rw [fL]
         exact ⟨σ',HX _ _,by rw [wL];exact ah _,by rw [wL];exact Bm,trivial,rfl⟩
      ·have Au:n=l.r.size:=by omega
       have yn:(cT i true l.r).length=l.r.size:=by simp only [cT,ak];exact y3 _ _
       have e0:(cT i true l.r).drop n=[]:=fJ (by omega)
       rw [e0,bh] at jZ
       simp only [go_sem,oQ]
       refine aK.go 1000 ?_
       simp only [go_sem]
       refine ⟨⟨(2,k2),by simp only;omega,qG,by simp only [qV];simpa using jZ⟩,?_,by simp only;omega⟩
       exact ⟨⟨rfl,by first | rfl | exact congrArg (ae.int .i64) (ek (n:=1+1) (by omega)).symm⟩,cr _,o8 (nx (show 9≤11 by decide) hs) ⟨trivial,⟨⟨trivial,bQ _,trivial⟩,⟨trivial,bQ _,trivial⟩,trivial⟩,trivial⟩⟩
    ·have jZ:SP.drop k'=R:=by simpa [qV] using qL
     simp only [go_sem,kY,lL]
     refine aK.go 1000 ?_
     simp only [go_sem,hw]
     refine ⟨⟨(i+1,k'),by simp only;omega,er,by simp only;rw [jZ,hR]⟩,?_,by simp only;omega⟩
     simp only [go_sem,cr]
     exact hs
  ·have dP:i=c.length:=by omega
   subst dP
   rw [aV,cK] at aP
   have hkl:¬ k0<SP.length:=by have:=List.drop_eq_nil_iff.1 aP;omega
   rw [if_neg hkl]
   simp only [go_sem,bD]
   refine aK.go 1000 ?_
   simp only [go_sem]
   rw [fL]
   exact ⟨_,fx _,ah _,hs,trivial,rfl⟩
end Go.Proofs
namespace Go.Proofs
open Go Go.c8
def gk (T:Un→mP→Tm×Bool) (s:mP):List Un→Option (Un×Tm)
 | []=>none
 | u :: us=>if (T u s).2=true then some (u,(T u s).1) else gk T s us
def ka (T:Un→mP→Tm×Bool) (us:List Un):List mP→Option (mP×Un×Tm)
 | []=>none
 | s :: ss=>match gk T s us with
  | some x=>some (s,x)
  | none=>ka T us ss
def lu (g:List Sy) (T:Un→mP→Tm×Bool) (us:List Un) (c:List Li):List Li×Int×Bool×Int :=
 match ka T us (cK c 0) with
 | none=>(c, -1,false,0)
 | some (s,u,t)=>if bd g (kO c s t)=0 then (kO c s t,u.off,true,0) else ([],0,false,bd g (kO c s t))
theorem EO (T:Un→mP→Tm×Bool) (us:List Un):∀ ss:List mP,(ka T us ss=none∧∀ s∈ss,gk T s us=none)∨∃ (k:Nat) (h:k<ss.length) (x:Un×Tm),ka T us ss=some (ss[k],x)∧gk T ss[k] us=some x∧∀ j (hj:j<ss.length),j<k→gk T ss[j] us=none
 | []=>.inl ⟨rfl,fun s h=>by cases h⟩
 | s :: ss=>by
  cases hu:gk T s us with
  | some x=>exact .inr ⟨0,by simp,x,by simp [ka,hu],by simpa using hu,fun j _ h=>by omega⟩
  | none =>
   rcases EO T us ss with ⟨h1,h2⟩ | ⟨k,h,x,h1,h2,h3⟩
   ·refine .inl ⟨by simp [ka,hu,h1],fun y hy=>?_⟩
    rcases aQ.1 hy with rfl | hy
    ·exact hu
    ·exact h2 y hy
   ·refine .inr ⟨k+1,by simpa using h,x,by simp [ka,hu,h1],by simpa using h2,fun j hj I1=>?_⟩
    cases j with
    | zero=>simpa using hu
    | succ j=>simpa using h3 j (by simpa using hj) (by omega)
end Go.Proofs
namespace Go.Proofs
open Go Go.c8
attribute [local go_sem] Nat.reduceAdd Nat.reduceSub Nat.reduceMul Nat.reduceLeDiff Nat.reduceEqDiff Nat.reduceBEq Nat.reduceLT Nat.le_refl Int.natCast_zero Nat.sub_zero List.length_map Int.toNat_natCast Int.natCast_one Int.reduceEq Int.reduceLT Int.reduceLE Int.reduceNe Int.sub_zero Int.zero_add Int.toNat_one
theorem Zf (g:List Sy) (us:List Un) (c:List Li) (T:Un→mP→Tm×Bool) (wT:us.length<1000000) (gK:c.length<1000000) (hc:∀ l∈c,l.l.size≤400∧l.r.size≤400)
  (hT:∀ u∈us, ∀ s∈cK c 0,aJ Tryz.prog 141 [.ps 4 (syms g),u.aO,s.t.aO, .ps 5 (lits c)] (.dz [(T u s).1.aO, .bool (T u s).2]))
  (hP:∀ u∈us, ∀ s∈cK c 0,aJ Tryz.prog 142 [.ps 5 (lits c),s.aO,(T u s).1.aO] (.ps 5 (lits (kO c s (T u s).1))))
  (hK:∀ u∈us, ∀ s∈cK c 0,(T u s).2=true→aJ Tryz.prog 28 [.ps 4 (syms g), .ps 5 (lits (kO c s (T u s).1))] (.int .i64 (bd g (kO c s (T u s).1)))) :
  aJ Tryz.prog 109 [.ps 4 (syms g), .ps 5 (iZ us), .ps 5 (lits c)] (.dz [.ps 5 (lits (lu g T us c).1), .int .i64 (lu g T us c).2.1, .bool (lu g T us c).2.2.1, .int .i64 (lu g T us c).2.2.2]):=by
 refine aJ.begin (rs:=[.cell 6 24, .cell 7 3, .cell 8 4, .cell 9 29]) (m:=49) 1000 Tryz.func109 rfl rfl rfl (by decide) ⟨cr _,trivial,trivial,trivial,trivial⟩ ?_
 simp only [go_sem]
 refine (YB c _ ?_).mono ?_
 ·simp [go_sem,cr,dK,rP]
 rintro _ _ ⟨rfl,rfl⟩
 refine aK.go 1000 ?_
 simp only [go_sem]
 refine aK.rangeFunc (fG 52 [(3, .ptr 0 0),(4, .ptr 1 0),(5, .ptr 2 0),(6, .ptr 3 0),(7, .ptr 4 0),(8, .ptr 5 0),(9, .ptr 6 0)]) ?_ ?_ (fun ρ ht vl kV qD=>?_)
 ·simp only [go_sem]
 ·exact fun b hb=>by cases hb
 simp only [go_sem]
 have jf:∀ n,7≤n→bx n ρ.tm:=fun n hn=>il hn (show bx 7 ρ.tm by rw [ht];simp [go_sem,zP,zT])
 have fQ:∀ (a:ae) (b c' d:ae) (s:fS),a.low 0→b.low 0→c'.low 0→d.low 0→bt 9 [some (bE.var [.ps 4 (syms g)]),some (bE.var [.ps 5 (iZ us)]),some (bE.var [.ps 5 (lits c)]),some (bE.var [a]),some (bE.var [b]),some (bE.var [c']),some (bE.var [d]),some (bE.var [.ps 5 (lits c)]),some (bE.loop (ρ.at s))]:=fun a b c' d s h1 h2 h3 h4 =>
  ⟨⟨dK _,trivial⟩,⟨rP _,trivial⟩,⟨cr _,trivial⟩,⟨mQ (av _) h1,trivial⟩,⟨mQ (av _) h2,trivial⟩,⟨mQ (av _) h3,trivial⟩,⟨mQ (av _) h4,trivial⟩,⟨cr _,trivial⟩,jf 9 (by decide),trivial⟩
 have vd:∀ k (h:k<(cK c 0).length),gk T (cK c 0)[k] us=none→aq Tryz.prog (.ld 8) [(cK c 0)[k].aO] [some (bE.var [.ps 4 (syms g)]),some (bE.var [.ps 5 (iZ us)]),some (bE.var [.ps 5 (lits c)]),some (bE.var [.aU]),some (bE.var [.int .i64 0]),some (bE.var [.bool false]),some (bE.var [.int .i64 0]),some (bE.var [.ps 5 (lits c)]),some (bE.loop (ρ.at .ready))] (fun r σ'=>r = .bool true∧σ'=[some (bE.var [.ps 4 (syms g)]),some (bE.var [.ps 5 (iZ us)]),some (bE.var [.ps 5 (lits c)]),some (bE.var [.aU]),some (bE.var [.int .i64 0]),some (bE.var [.bool false]),some (bE.var [.int .i64 0]),some (bE.var [.ps 5 (lits c)]),some (bE.loop (ρ.at .ready))]):=fun k h Ek=>by
  refine aq.lK 1000 ht vl kV qD rfl rfl ?_
  simp only [go_sem,Ko,sq]
  have jx:=aE h
  have L_:∀ u∈us,aJ Tryz.prog 141 [.ps 4 (syms g),u.aO,(cK c 0)[k].t.aO, .ps 5 (lits c)] (.dz [(T u (cK c 0)[k]).1.aO, .bool (T u (cK c 0)[k]).2]):=fun u hu=>hT u hu _ jx
  generalize (cK c 0)[k]=sp at *
  have wR:∀ (l:List Un),gk T sp l=none→∀ u∈l,(T u sp).2=false:=fun l=>by
   induction l with
   | nil=>intro _ u hu;cases hu
   | cons a l ih =>
    intro hf u hu
    rw [gk] at hf
    cases ha:(T a sp).2 with
    | true=>rw [ha] at hf;simp at hf
    | false =>
     rw [ha] at hf
     rcases aQ.1 hu with rfl | hu
     ·exact ha
     ·exact ih (by simpa using hf) u hu
  have iJ:=fQ .aU (.int .i64 0) (.bool false) (.int .i64 0) .busy trivial trivial trivial trivial
  have p9:bt 10 [some (bE.var [.ps 4 (syms g)]),some (bE.var [.ps 5 (iZ us)]),some (bE.var [.ps 5 (lits c)]),some (bE.var [.aU]),some (bE.var [.int .i64 0]),some (bE.var [.bool false]),some (bE.var [.int .i64 0]),some (bE.var [.ps 5 (lits c)]),some (bE.loop (ρ.at .busy)),some (bE.var [.int .i64 sp.i, .bool sp.rt, .ps 1 (ints sp.p), .int .i64 sp.t.head, .ps 2 (sp.t.args.map Tm.aO)])] :=
   o8 (nx (show 9≤10 by decide) iJ) ⟨⟨trivial,trivial,du _,trivial,bQ _,trivial⟩,trivial⟩
  refine aK.c_ (ι:={j:Nat // j≤us.length}) 1000 (fun q=>fG 52 [(3, .ptr 0 0),(4, .ptr 1 0),(5, .ptr 2 0),(6, .ptr 3 0),(7, .ptr 4 0),(8, .ptr 5 0),(9, .ptr 6 0),(10, .ptr 9 0),(20, .ps 5 (iZ us)),(21, .int .i64 us.length),(22, .int .i64 q.1)])
   (fun _=>[some (bE.var [.ps 4 (syms g)]),some (bE.var [.ps 5 (iZ us)]),some (bE.var [.ps 5 (lits c)]),some (bE.var [.aU]),some (bE.var [.int .i64 0]),some (bE.var [.bool false]),some (bE.var [.int .i64 0]),some (bE.var [.ps 5 (lits c)]),some (bE.loop (ρ.at .busy)),some (bE.var [.int .i64 sp.i, .bool sp.rt, .ps 1 (ints sp.p), .int .i64 sp.t.head, .ps 2 (sp.t.args.map Tm.aO)])])
   (fun q=>us.length - q.1) ⟨0,av _⟩ ?_ (fun _=>by simp) ?_
  ·simp only [go_sem,of_eq_true (show bx 10 (iZ us)=True from eq_true (rP us))]
   exact ⟨dK _,cr _,cr _,jf 10 (by decide),du _,bQ _⟩
  ·rintro ⟨j,hj⟩
   by_cases bD:(j:Int)<us.length
   ·have aZ:j<us.length:=by omega
    have hw:IntKind.i64.wrap ((j:Int)+1)=((j+1:Nat):Int):=by rw [ek (by omega)];omega
    have zi:(iZ us).getD j .undef=us[j].aO:=nO aZ
    have Ev:=aE aZ
    have ki:=L_ _ Ev
    rw [wR us Ek _ Ev] at ki
    generalize us[j]=u at *
    simp only [go_sem,bD,sq,zi,D3]
    refine ⟨by omega,?_⟩
    refine aq.bU [] ki (by simp only [dc];exact cE _ _ _) ⟨dK _,IE u,dC _,cr _,trivial⟩ ?_
    rw [jb];simp only [ite_self]
    refine aK.go 1000 ?_
    simp only [go_sem,ft,hw]
    refine ⟨⟨j+1,by omega⟩,?_,by simp only;omega⟩
    simp only [go_sem,of_eq_true (show bx 10 (iZ us)=True from eq_true (rP us))]
    exact ⟨dK _,cr _,cr _,jf 10 (by decide),du _,bQ _⟩
   ·simp only [go_sem,bD]
    refine aK.go 1000 ?_
    simp only [go_sem]
    rw [tA]
    exact ⟨rfl,[some (bE.var [.ps 4 (syms g)]),some (bE.var [.ps 5 (iZ us)]),some (bE.var [.ps 5 (lits c)]),some (bE.var [.aU]),some (bE.var [.int .i64 0]),some (bE.var [.bool false]),some (bE.var [.int .i64 0]),some (bE.var [.ps 5 (lits c)]),some (bE.loop (ρ.at .ready))],by simp [go_sem],ah _,fQ _ _ _ _ _ trivial trivial trivial trivial,rfl,rfl⟩
 rcases EO T us (cK c 0) with ⟨f1,f2⟩ | ⟨k,hk,x,f1,f2,f3⟩
 ·refine (Rz c gK hc _ _ _ _ _ _ _ _ _ (cK c 0).length rfl (fQ .aU (.int .i64 0) (.bool false) (.int .i64 0) .ready trivial trivial trivial trivial) (fQ .aU (.int .i64 0) (.bool false) (.int .i64 0) .ready trivial trivial trivial trivial) (fun k h _=>?_) (fun h=>absurd h (iF _))).mono ?_
  ·exact vd k h (f2 _ (aE h))
  ·have hF:lu g T us c=(c, -1,false,0):=by unfold lu;rw [f1]
   rintro r' iM rfl
   rw [if_neg (iF _),Cm]
   refine ⟨.ready,rfl,?_⟩
   rw [D2,hF]
   refine aK.go 1000 ?_
   simp only [go_sem]
 ·have jx:=aE hk
  obtain ⟨z,hz⟩:∃ z,lu g T us c=z:=⟨_,rfl⟩
  rw [hz]
  obtain ⟨a3,zb⟩:∃ a3:ae,a3=if bd g (kO c (cK c 0)[k] x.2)=0 then .ps 5 (lits z.1) else .aU:=⟨_,rfl⟩
  have Me:a3.low 0:=by rw [zb];split<;>simp [go_sem,cr]
  have GI:aq Tryz.prog (.ld 8) [(cK c 0)[k].aO] [some (bE.var [.ps 4 (syms g)]),some (bE.var [.ps 5 (iZ us)]),some (bE.var [.ps 5 (lits c)]),some (bE.var [.aU]),some (bE.var [.int .i64 0]),some (bE.var [.bool false]),some (bE.var [.int .i64 0]),some (bE.var [.ps 5 (lits c)]),some (bE.loop (ρ.at .ready))] (fun r σ'=>r = .bool false∧σ'=[some (bE.var [.ps 4 (syms g)]),some (bE.var [.ps 5 (iZ us)]),some (bE.var [.ps 5 (lits c)]),some (bE.var [a3]),some (bE.var [.int .i64 z.2.1]),some (bE.var [.bool z.2.2.1]),some (bE.var [.int .i64 z.2.2.2]),some (bE.var [.ps 5 (lits c)]),some (bE.loop (ρ.at (.done .ret)))]):=by
   refine aq.lK 1000 ht vl kV qD rfl rfl ?_
   simp only [go_sem,Ko,sq]
   have AE:z=if bd g (kO c (cK c 0)[k] x.2)=0 then (kO c (cK c 0)[k] x.2,x.1.off,true,0) else ([],0,false,bd g (kO c (cK c 0)[k] x.2)):=by
    rw [← hz];unfold lu;rw [f1]
   have L_:∀ u∈us,aJ Tryz.prog 141 [.ps 4 (syms g),u.aO,(cK c 0)[k].t.aO, .ps 5 (lits c)] (.dz [(T u (cK c 0)[k]).1.aO, .bool (T u (cK c 0)[k]).2]):=fun u hu=>hT u hu _ jx
   have hPs:=fun u hu=>hP u hu _ jx
   have hKs:=fun u hu=>hK u hu _ jx
   generalize (cK c 0)[k]=sp at *
   have p9:bt 10 [some (bE.var [.ps 4 (syms g)]),some (bE.var [.ps 5 (iZ us)]),some (bE.var [.ps 5 (lits c)]),some (bE.var [.aU]),some (bE.var [.int .i64 0]),some (bE.var [.bool false]),some (bE.var [.int .i64 0]),some (bE.var [.ps 5 (lits c)]),some (bE.loop (ρ.at .busy)),some (bE.var [.int .i64 sp.i, .bool sp.rt, .ps 1 (ints sp.p), .int .i64 sp.t.head, .ps 2 (sp.t.args.map Tm.aO)])] :=
    o8 (nx (show 9≤10 by decide) (fQ .aU (.int .i64 0) (.bool false) (.int .i64 0) .busy trivial trivial trivial trivial)) ⟨⟨trivial,trivial,du _,trivial,bQ _,trivial⟩,trivial⟩
   refine aK.c_ (ι:={j:Nat // j≤us.length∧gk T sp (us.drop j)=some x}) 1000 (fun q=>fG 52 [(3, .ptr 0 0),(4, .ptr 1 0),(5, .ptr 2 0),(6, .ptr 3 0),(7, .ptr 4 0),(8, .ptr 5 0),(9, .ptr 6 0),(10, .ptr 9 0),(20, .ps 5 (iZ us)),(21, .int .i64 us.length),(22, .int .i64 q.1)])
    (fun _=>[some (bE.var [.ps 4 (syms g)]),some (bE.var [.ps 5 (iZ us)]),some (bE.var [.ps 5 (lits c)]),some (bE.var [.aU]),some (bE.var [.int .i64 0]),some (bE.var [.bool false]),some (bE.var [.int .i64 0]),some (bE.var [.ps 5 (lits c)]),some (bE.loop (ρ.at .busy)),some (bE.var [.int .i64 sp.i, .bool sp.rt, .ps 1 (ints sp.p), .int .i64 sp.t.head, .ps 2 (sp.t.args.map Tm.aO)])])
    (fun q=>us.length - q.1) ⟨0,av _,by simpa using f2⟩ ?_ (fun _=>by simp) ?_
   ·simp only [go_sem,of_eq_true (show bx 10 (iZ us)=True from eq_true (rP us))]
    exact ⟨dK _,cr _,cr _,jf 10 (by decide),du _,bQ _⟩
   ·rintro ⟨j,hj,Bt⟩
    by_cases aZ:j<us.length
    ·have bD:(j:Int)<us.length:=by omega
     have hw:IntKind.i64.wrap ((j:Int)+1)=((j+1:Nat):Int):=by rw [ek (by omega)];omega
     have zi:(iZ us).getD j .undef=us[j].aO:=nO aZ
     have Ev:=aE aZ
     have ki:=L_ _ Ev
     have hPu:=hPs _ Ev
     have UZ:=hKs _ Ev
     rw [ao aZ,gk] at Bt
     generalize us[j]=u at *
     simp only [go_sem,bD,sq,zi,D3]
     refine ⟨by omega,?_⟩
     refine aq.bU [] ki (by simp only [dc];exact cE _ _ _) ⟨dK _,IE u,dC _,cr _,trivial⟩ ?_
     rw [jb];simp only [ite_self]
     refine aK.go 1000 ?_
     cases hq:(T u sp).2 with
     | false =>
      rw [hq] at Bt
      simp only [a8,if_false] at Bt
      simp only [go_sem,hq,ft,hw]
      refine ⟨⟨j+1,by omega,Bt⟩,?_,by simp only;omega⟩
      simp only [go_sem,of_eq_true (show bx 10 (iZ us)=True from eq_true (rP us))]
      exact ⟨dK _,cr _,cr _,jf 10 (by decide),du _,bQ _⟩
     | true =>
      rw [hq,if_pos rfl] at Bt
      obtain rfl:=aM Bt
      simp only at AE UZ zb
      simp only [go_sem,hq,ft]
      refine aq.bU [] hPu (by simp only [dc];exact cE _ _ _) ⟨cr _,Yqe sp,dC _,trivial⟩ ?_
      rw [jb];simp only [ite_self]
      refine aK.go 1000 ?_
      simp only [go_sem]
      refine aq.bU [] (UZ hq) (cE _ _ _) ⟨dK _,cr _,trivial⟩ ?_
      rw [jb];simp only [ite_self]
      refine aK.go 1000 ?_
      by_cases rq:bd g (kO c sp (T u sp).1)=0
      ·rw [if_pos rq] at AE zb
       subst AE
       subst zb
       simp only [go_sem,rq]
       refine aK.draw [.no,⟨none,[],[3]⟩,⟨none,[],[3]⟩,⟨none,[3],[]⟩,⟨none,[4],[]⟩,⟨none,[5],[]⟩,⟨none,[6],[]⟩] 12 12 mixed rfl rfl (by decide) ?_
       simp only [go_sem,dx]
       refine aK.go 1000 ?_
       simp only [go_sem]
       refine aK.go 1000 ?_
       simp only [go_sem]
       rw [tA]
       exact ⟨rfl,[some (bE.var [.ps 4 (syms g)]),some (bE.var [.ps 5 (iZ us)]),some (bE.var [.ps 5 (lits c)]),some (bE.var [.ps 5 (lits (kO c sp (T u sp).1))]),some (bE.var [.int .i64 u.off]),some (bE.var [.bool true]),some (bE.var [.int .i64 0]),some (bE.var [.ps 5 (lits c)]),some (bE.loop (ρ.at (.done .ret)))],by simp [go_sem],ah _,fQ _ _ _ _ _ (cr _) trivial trivial trivial,rfl,rfl⟩
      ·rw [if_neg rq] at AE zb
       subst AE
       subst zb
       simp only [go_sem,rq]
       refine aK.go 1000 ?_
       simp only [go_sem]
       rw [tA]
       exact ⟨rfl,[some (bE.var [.ps 4 (syms g)]),some (bE.var [.ps 5 (iZ us)]),some (bE.var [.ps 5 (lits c)]),some (bE.var [.aU]),some (bE.var [.int .i64 0]),some (bE.var [.bool false]),some (bE.var [.int .i64 (bd g (kO c sp (T u sp).1))]),some (bE.var [.ps 5 (lits c)]),some (bE.loop (ρ.at (.done .ret)))],by simp [go_sem],ah _,fQ _ _ _ _ _ trivial trivial trivial trivial,rfl,rfl⟩
    ·rw [fJ (by omega),gk] at Bt
     cases Bt
  refine (Rz c gK hc _ _ _ _ _ _ _ _ [some (bE.var [.ps 4 (syms g)]),some (bE.var [.ps 5 (iZ us)]),some (bE.var [.ps 5 (lits c)]),some (bE.var [a3]),some (bE.var [.int .i64 z.2.1]),some (bE.var [.bool z.2.2.1]),some (bE.var [.int .i64 z.2.2.2]),some (bE.var [.ps 5 (lits c)]),some (bE.loop (ρ.at (.done .ret)))] k rfl (fQ _ _ _ _ _ Me trivial trivial trivial) (fQ .aU (.int .i64 0) (.bool false) (.int .i64 0) .ready trivial trivial trivial trivial) (fun j h I1=>vd j h (f3 j h I1)) (fun _=>GI)).mono ?_
  rintro r' iM rfl
  rw [if_pos hk,Cm]
  refine ⟨.done .ret,rfl,?_⟩
  rw [Yty]
  have rv:bd g (kO c (cK c 0)[k] x.2)≠0→z.1=[]:=fun eg=>by
   rw [← hz];unfold lu;rw [f1];simp only [if_neg eg]
  by_cases rq:bd g (kO c (cK c 0)[k] x.2)=0
  ·rw [if_pos rq] at zb
   subst zb
   refine aK.go 1000 ?_
   simp only [go_sem]
  ·rw [if_neg rq] at zb
   subst zb
   rw [rv rq]
   refine aK.go 1000 ?_
   simp only [go_sem,show lits []=[] from rfl]
def wX (g:List Sy) (us:List Un) (c:List Li) (u:List Int):ai:=[some (.var [.ps 4 (syms g)]),some (.var [.ps 5 (lits c)]),some (.var [i_ 4 1 (ints u)]),some (.var [.ps 5 (iZ us)]),eV (ints u)]
def NN (g:List Sy) (us:List Un) (c:List Li) (u:List Int):ai:=[some (.var [.ps 4 (syms g)]),some (.var [.ps 5 (lits c)]),some (.var [i_ 6 1 (ints u)]),some (.var [.ps 5 (iZ us)]),none,none,eV (ints u)]
theorem Yrw (g:List Sy) (us:List Un) (c:List Li) (u:List Int) (z:List Li×Int×Bool×Int) (hu:u.length<1000000)
  (hS:aJ Tryz.prog 109 [.ps 4 (syms g), .ps 5 (iZ us), .ps 5 (lits c)] (.dz [.ps 5 (lits z.1), .int .i64 z.2.1, .bool z.2.2.1, .int .i64 z.2.2.2])) :
  aq Tryz.prog (.fn 108 [] [.ptr 0 0, .ptr 3 0, .ptr 1 0, .ptr 2 0]) [] (wX g us c u)
   (fun r σ'=>r = .dz [.bool z.2.2.1, .int .i64 z.2.2.2]∧σ'=if z.2.2.2=0∧z.2.2.1=true then NN g us z.1 (u++[z.2.1]) else wX g us c u):=by
 unfold wX
 refine aq.begin (rs:=[.tmp 4, .tmp 5]) (m:=27) 1000 Tryz.func108 rfl rfl rfl rfl rfl ?_
 simp only [go_sem]
 refine aq.bU [] hS (cE _ _ _) ⟨dK _,rP _,cr _,trivial⟩ ?_
 rw [jb];simp only [ite_self]
 refine aK.go 1000 ?_
 have jY:bt 5 (wX g us c u):=by
  unfold wX
  simp [go_sem,dK,cr,rP,du]
 by_cases h1:z.2.2.2=0
 ·cases h2:z.2.2.1 with
  | true =>
   have u9:bG [some (bE.var [ae.ps 4 (syms g)]),some (bE.var [ae.ps 5 (lits c)]),some (bE.var [i_ 4 1 (ints u)]),some (bE.var [ae.ps 5 (iZ us)]),eV (ints u),some (bE.row [ae.int .i64 z.2.1] 0)] 4=eV (ints u):=by simp [bG]
   simp only [go_sem,h1,uO u9,eI,aN,forall_eq,cm,ah,lH]
   refine ⟨by omega,?_⟩
   rw [fL]
   unfold NN
   rw [B_,vQ (by simp),vS (by simp),lH]
   refine ⟨_,?_,by simp,?_,by simp [go_sem],rfl,rfl⟩
   ·simp [ic]
   ·simp [go_sem,dK,cr,rP]
    rw [RT];exact du _
  | false =>
   simp only [go_sem,h1]
   rw [fL]
   exact ⟨_,fx _,by simp,jY,by simp [go_sem],rfl,rfl⟩
 ·simp only [go_sem,h1]
  rw [fL]
  exact ⟨_,fx _,by simp,jY,by simp [go_sem],rfl,rfl⟩
def fg (S:List Li→List Li×Int×Bool×Int):Nat→List Li→List Int→List Li×List Int×Int
 | 0,_,_=>([],[],9)
 | n+1,c,u=>if (S c).2.2.2≠0 then ([],[],(S c).2.2.2) else if (S c).2.2.1=false then (c,u,0) else if 200<u.length+1 then ([],[],9) else fg S n (S c).1 (u++[(S c).2.1])
theorem S7 (S:List Li→List Li×Int×Bool×Int):∀ n c u,u.length≤200→(fg S n c u).2.1.length≤200
 | 0,_,_,_=>av _
 | n+1,c,u,hu=>by
  rw [fg]
  split
  ·exact av _
  split
  ·exact hu
  split
  ·exact av _
  ·exact S7 S n _ _ (by rw [ay];simp only [ax,aR];omega)
def gq (w:Int) (S:List Li→List Li×Int×Bool×Int) (c:List Li):List Li×List Int×Int:=if w≠0 then ([],[],w) else fg S 201 c []
theorem XU (g:List Sy) (es:List (List Li)) (us:List Un) (c:List Li) (w:Int) (S:List Li→List Li×Int×Bool×Int) (I:List Li→Prop)
  (hW:aJ Tryz.prog 106 [.ps 4 (syms g), .ps 1 (cX es), .ps 5 (lits c)] (.int .i64 w))
  (hU:w=0→aJ Tryz.prog 107 [.ps 1 (cX es)] (.ps 5 (iZ us)))
  (hI:w=0→I c) (hII:∀ d,I d→(S d).2.2.2=0→(S d).2.2.1=true→I (S d).1)
  (hS:∀ d,I d→aJ Tryz.prog 109 [.ps 4 (syms g), .ps 5 (iZ us), .ps 5 (lits d)] (.dz [.ps 5 (lits (S d).1), .int .i64 (S d).2.1, .bool (S d).2.2.1, .int .i64 (S d).2.2.2])) :
  aJ Tryz.prog 68 [.ps 4 (syms g), .ps 1 (cX es), .ps 5 (lits c)] (.dz [.ps 5 (lits (gq w S c).1), .ps 1 (ints (gq w S c).2.1), .int .i64 (gq w S c).2.2]):=by
 refine aJ.begin (rs:=[.tmp 6, .tmp 7, .tmp 8]) (m:=40) 1000 Tryz.func68 rfl rfl rfl (by decide) ⟨cr _,du _,trivial,trivial⟩ ?_
 simp only [go_sem]
 refine aq.bU [] hW (cE _ _ _) ⟨dK _,fe _,cr _,trivial⟩ ?_
 simp only [bO,bX,bW,if_true]
 refine aK.go 1000 ?_
 by_cases h0:w=0
 ·subst h0
  have hF:gq 0 S c=fg S 201 c []:=by simp [gq]
  rw [hF]
  obtain ⟨Z,hZ⟩:∃ Z,fg S 201 c []=Z:=⟨_,rfl⟩
  rw [hZ]
  simp only [go_sem]
  refine aq.bU [] (hU rfl) (cE _ _ _) ⟨fe _,trivial⟩ ?_
  rw [jb];simp only [ite_self]
  refine aK.go 1000 ?_
  simp only [go_sem]
  have jY:∀ (d:List Li) (u:List Int),bt 5 (wX g us d u):=fun d u=>by
   unfold wX
   simp [go_sem,dK,cr,rP,du]
  refine aK.h_ (ι:={q:List Li×List Int // I q.1∧q.2.length≤200∧fg S (201 - q.2.length) q.1 q.2=Z}) 1000
   (fun _=>fG 43 [(5, .ptr 1 0),(6, .aU),(7, .aU),(8, .int .i64 0),(10, .ptr 2 0),(12, .fn 108 [] [.ptr 0 0, .ptr 3 0, .ptr 1 0, .ptr 2 0])])
   (fun q=>wX g us q.1.1 q.1.2) (fun q=>201 - q.1.2.length) ⟨(c,[]),hI rfl,by simp,hZ⟩ [] ?_ (fun _=>by simp [wX]) ?_
  ·refine iP rfl ?_
   unfold wX
   simp only [go_sem,E2,uD,tz,dK,cr,rP,cD (dK _),cD (cr _),cD (rP _)]
  ·rintro ⟨⟨d,u⟩,qF,hu,hn⟩
   simp only at qF hu hn
   have Et:=Yrw g us d u (S d) (by omega) (hS d qF)
   have M5 : 201 - u.length=(200 - u.length)+1:=by omega
   rw [M5,fg] at hn
   obtain ⟨z,hz⟩:∃ z,S d=z:=⟨_,rfl⟩
   have fp:=hII d qF
   rw [hz] at hn Et fp
   simp only [go_sem]
   refine Et.mono ?_
   rintro r σ' ⟨rfl,rfl⟩
   by_cases h1:z.2.2.2=0
   ·cases h2:z.2.2.1 with
    | true =>
     rw [if_neg (by simp [h1]),if_neg (by simp [h2])] at hn
     rw [if_pos ⟨h1,rfl⟩]
     unfold NN
     rw [B_,vQ (by simp),vS (by simp),lH,h1]
     refine aK.go 1000 ?_
     simp only [go_sem]
     by_cases h3 : 200<((u.length+1:Nat):Int)
     ·simp only [go_sem,h3]
      rw [if_pos (by omega)] at hn
      subst hn
      refine aK.go 1000 ?_
      simp only [go_sem]
      exact ⟨rfl,rfl⟩
     ·simp only [go_sem,h3]
      rw [if_neg (by omega)] at hn
      have wT:(u++[z.2.1]).length=u.length+1:=by simp
      refine ⟨⟨(z.1,u++[z.2.1]),fp h1 h2,by rw [wT];omega,by rw [wT,show 201 - (u.length+1)=200 - u.length by omega];exact hn⟩,[(4,6),(6,4)],iP rfl ?_,by simp only [wT];omega⟩
      unfold wX
      have lw:bx 0 (ints (u++[z.2.1])):=du _
      rw [B_] at lw
      simp only
      rw [B_,vQ (by simp),vS (by simp),lH]
      simp only [go_sem,dK,cr,rP,cD (dK _),cD (cr _),cD (rP _),cD lw,il (av _) lw]
    | false =>
     rw [if_neg (by simp [h1]),if_pos h2] at hn
     rw [if_neg (by simp),h1]
     subst hn
     unfold wX
     refine aK.go 1000 ?_
     simp only [go_sem]
     refine aK.draw [] 5 5 mixed rfl rfl (by decide) ?_
     simp only [go_sem,dx]
     refine aK.go 1000 ?_
     simp only [go_sem]
     refine aK.go 1000 ?_
     simp only [go_sem,rQ]
   ·rw [if_pos h1] at hn
    rw [if_neg (by simp [h1])]
    subst hn
    unfold wX
    refine aK.go 1000 ?_
    simp only [go_sem,h1]
    refine aK.go 1000 ?_
    simp only [go_sem,h1]
    exact ⟨rfl,rfl⟩
 ·have hF:gq w S c=([],[],w):=by simp [gq,h0]
  rw [hF]
  simp only [go_sem,h0]
  exact ⟨rfl,rfl⟩
end Go.Proofs
namespace Go.Proofs
open Go Go.c8
theorem Fu {P:Tm→Prop} (hP:∀ t,P t→∀ u∈t.args,P u):∀ (p:List Int) (t v:Tm),P t→t.pf p=some v→P v
 | [],t,v,h,e=>by rw [Tm.pf] at e;cases e;exact h
 | n :: p,t,v,h,e=>by
  rw [Tm.pf] at e
  split at e
  ·cases e
  split at e
  ·rename_i h2
   exact Fu hP p _ v (hP t h _ (aE h2)) e
  ·cases e
theorem Yq1 {P:Tm→Prop} (hP:∀ t,P t→∀ u∈t.args,P u):∀ (s:List (Tm×Tm)) (m m':List Bd),fh s m=some m'→(∀ x∈s,P x.2)→(∀ b∈m,P b.t)→∀ b∈m',P b.t:=by
 intro s m
 induction s,m using fh.induct with
 | case1 m =>
  intro m' h h1 h2
  rw [fh] at h
  cases h
  exact h2
 | case2 x r m hv c hf he ih =>
  intro m' h h1 h2
  rw [fh,if_pos hv,hf] at h
  simp only [if_pos he] at h
  exact ih m' h (fun y hy=>h1 y (by simp [hy])) h2
 | case3 x r m hv c hf he =>
  intro m' h
  rw [fh,if_pos hv,hf] at h
  simp only [if_neg he] at h
  cases h
 | case4 x r m hv hf ih =>
  intro m' h h1 h2
  rw [fh,if_pos hv,hf] at h
  simp only at h
  refine ih m' h (fun y hy=>h1 y (by simp [hy])) (fun b hb=>?_)
  rcases aW.1 hb with hb | hb
  ·exact h2 b hb
  ·rw [aN.1 hb];exact h1 x (by simp)
 | case5 x r m hv hc =>
  intro m' h
  rw [fh,if_neg hv,if_pos hc] at h
  cases h
 | case6 x r m hv hc ih =>
  intro m' h h1 h2
  rw [fh,if_neg hv,if_neg hc] at h
  refine ih m' h (fun y hy=>?_) h2
  rcases aW.1 hy with hy | hy
  ·have hy:=cO.1 hy
   exact hP x.2 (h1 x (by simp)) _ (cW hy).2
  ·exact h1 y (by simp [hy])
theorem X4 {P:Tm→Prop} {m:List Bd} (h:∀ b∈m,P b.t) (ks:List Int):∀ b∈iU m ks,P b.t:=fun b hb=>by
 unfold iU at hb
 obtain ⟨v,_,hv⟩:=List.mem_filterMap.1 hb
 cases hf:m.find? (fun c=>c.v==v) with
 | none=>rw [hf] at hv;cases hv
 | some c =>
  rw [hf] at hv
  simp only at hv
  split at hv
  ·cases hv
  ·cases hv;exact h c (bI hf)
theorem Xo (m:List Bd) (ks:List Int):(iU m ks).length≤ks.length:=List.length_filterMap_le _ _
theorem UA {P:Tm→Prop} (hP:∀ t,P t→∀ u∈t.args,P u) {a b:Tm} (hb:P b):∀ x∈(gH [a] [b]).1,P x.t:=by
 unfold gH
 split
 ·intro x hx;cases hx
 ·split
  ·intro x hx;cases hx
  ·rename_i m hm
   exact X4 (Yq1 hP _ _ _ hm (fun x hx=>by
    simp only [e7,List.zip_nil_right,nN,lE,bh,aN] at hx
    subst hx;exact hb) (fun b hb=>by cases hb)) _
def Dw (t:Tm):Prop:=t.fit∧t.size≤400
theorem H3:∀ t,Dw t→∀ u∈t.args,Dw u:=fun t h u hu=>by
 have h1:=sT hu
 have h2:=ov t
 exact ⟨wA (xg h.1) u hu,by have:=h.2;omega⟩
theorem WV (g:List Sy):∀ t,jo g t→∀ u∈t.args,jo g u:=fun t h u hu=>KM h hu
theorem Yok:∀ (s:List (Tm×Tm)) (m m':List Bd),fh s m=some m'→m'.length≤m.length+lq s:=by
 intro s m
 induction s,m using fh.induct with
 | case1 m =>
  intro m' h
  rw [fh] at h
  cases h;omega
 | case2 x r m hv c hf he ih =>
  intro m' h
  rw [fh,if_pos hv,hf] at h
  simp only [if_pos he] at h
  have:=ih m' h
  simp only [lq];omega
 | case3 x r m hv c hf he =>
  intro m' h
  rw [fh,if_pos hv,hf] at h
  simp only [if_neg he] at h
  cases h
 | case4 x r m hv hf ih =>
  intro m' h
  rw [fh,if_pos hv,hf] at h
  simp only at h
  have:=ih m' h
  have hp:=zF x.1
  simp only [lq,ay,ax,aR] at this ⊢;omega
 | case5 x r m hv hc =>
  intro m' h
  rw [fh,if_neg hv,if_pos hc] at h
  cases h
 | case6 x r m hv hc ih =>
  intro m' h
  rw [fh,if_neg hv,if_neg hc] at h
  have:=ih m' h
  have h2:=Fa x.1 x.2 r
  simp only [lq];omega
theorem Zp (a b:Tm):(gH [a] [b]).1.length≤a.size:=by
 unfold gH
 split
 ·exact av _
 ·split
  ·exact av _
  ·rename_i m hm
   have h1:=Yok _ _ _ hm
   have h2:=Xo m (fW (m.map Bd.v))
   rw [DN,ak] at h2
   simp only [e7,List.zip_nil_right,nN,lE,bh,lq,aR] at h1 ⊢
   omega
mutual
theorem Oj {bs:List Bd} (hb:∀ b∈bs,b.t.fit):∀ t:Tm,t.fit→(t.sub bs).fit
 | .mk h ts,hf=>by
  rw [Tm.sub]
  split
  ·unfold pR
   cases hq:bs.find? (fun b=>b.v == -1 - (Tm.mk h ts).head) with
   | some b=>exact hb b (bI hq)
   | none=>exact hf
  ·exact ⟨hf.1,TB hb ts hf.2⟩
theorem TB {bs:List Bd} (hb:∀ b∈bs,b.t.fit):∀ ts:List Tm,Tm.fits ts→Tm.fits (Tm.rM bs ts)
 | [],_=>trivial
 | t :: ts,hf=>⟨Oj hb t hf.1,TB hb ts hf.2⟩
end
def mT (u:Un) (t:Tm):List Bd×Bool×Int:=gH [u.l] [t]
def aT (u:Un) (t:Tm):Tm×Int:=p7 (mT u t).1 u.r
def kT (g:List Sy) (u:Un) (t:Tm):Int×Int:=(if ez g [t,(aT u t).1]=0 then dQ g t (aT u t).1 else 0,ez g [t,(aT u t).1])
def qT (g:List Sy) (u:Un) (t:Tm) (c:List Li):Int×Int:=oK g [⟨false,t,(aT u t).1⟩] c
def j5 (g:List Sy) (c:List Li) (u:Un) (t:Tm):Tm×Bool:=nY g u t (mT u t) (aT u t) (kT g u t) (qT g u t c)
def TT (g:List Sy) (c:List Li) (u:Un) (s:mP):Tm×Bool:=j5 g c u s.t
theorem Sr:gT.fit:=by unfold gT;exact ⟨by unfold n5;omega,trivial⟩
def jQ (g:List Sy) (t:Tm):Prop:=t.term g=0∧t.fit
theorem qt {g:List Sy} {t:Tm} (h:jQ g t):Dw t:=⟨h.2,(sm (oH h.1).1).1⟩
theorem Iy {g:List Sy} {t:Tm} (h:jQ g t):jo g t:=HR h.1 h.2
theorem Jt {g:List Sy} {u:Un} {t:Tm} (hr:jQ g u.r) (ht:Dw t):(aT u t).1.fit∧(aT u t).1.size≤160000:=by
 have hb:=UA H3 (a:=u.l) ht
 unfold aT p7
 split
 ·exact ⟨Sr,by unfold gT;simp [Tm.size,Tm.bF]⟩
 split
 ·have hg:=(sm (oH hr.1).1).2.2
  have h1:=(sm (oH hr.1).1).1
  have h2:=Kr (mT u t).1.reverse 400 (by omega) (fun b m0=>(hb b (cO.1 m0)).2) u.r hg
  refine ⟨Oj (fun b m0=>(hb b (cO.1 m0)).1) u.r hr.2,?_⟩
  have h3:=aX 400 h1
  simp only at h2 ⊢;omega
 ·exact ⟨Sr,by unfold gT;simp [Tm.size,Tm.bF]⟩
theorem YU {g:List Sy} {u:Un} {t:Tm} {m:List Bd×Bool×Int} {s:Tm×Int} {k q:Int×Int}:(nY g u t m s k q).1=t∨(nY g u t m s k q).1=s.1:=by
 unfold nY
 repeat' split
 all_goals simp
theorem TE {g:List Sy} {c:List Li} {u:Un} {t:Tm} (hr:jQ g u.r) (ht:Dw t):(j5 g c u t).1.fit∧(j5 g c u t).1.size≤160000:=by
 unfold j5
 rcases YU (g:=g) (u:=u) (t:=t) (m:=mT u t) (s:=aT u t) (k:=kT g u t) (q:=qT g u t c) with h | h
 ·rw [h];exact ⟨ht.1,by have:=ht.2;omega⟩
 ·rw [h];exact Jt hr ht
theorem Yk1 (g:List Sy) (Da:fV g=true) (u:Un) (t:Tm) (c:List Li) (hl:jQ g u.l) (hr:jQ g u.r) (ht:jo g t) (ru:Dw t) (Eh:c≠[]) (gK:c.length≤400000) (hc:∀ l∈c,pE g l) :
  aJ Tryz.prog 141 [.ps 4 (syms g),u.aO,t.aO, .ps 5 (lits c)] (.dz [(j5 g c u t).1.aO, .bool (j5 g c u t).2]):=by
 obtain ⟨hg,lT⟩:=Yq4 Da
 have Ao:=qt hl
 have nG:=qt hr
 have hb:=UA H3 (a:=u.l) ru
 have ha:=Jt hr ru (u:=u)
 refine Yo g u t c (mT u t) (aT u t) (kT g u t) (qT g u t c) (Fb (Iy hl).2.1) (Fb ht.2.1) ?_ (fun _ _=>?_) (fun _ _ _=>?_) (fun _ _ _ _ _=>?_)
 ·exact Xv u.l t (by have:=Ao.2;omega) (by have:=ru.2;omega) Ao.1 ru.1
 ·have hlen:=Zp u.l t
  refine Yi _ u.r (by have:=Ao.2;unfold mT;omega) (fun b h=>by have:=(hb b h).2;omega) (by have:=nG.2;omega) nG.1 ?_
  have u9:=(sm (oH hr.1).1).2.2
  have h2:=Kr (mT u t).1.reverse 400 (by omega) (fun b m0=>(hb b (cO.1 m0)).2) u.r u9
  have h3:=aX 400 nG.2
  omega
 ·refine Zuz g hg (by omega) t (aT u t).1 (by have:=ru.2;omega) (by have:=ha.2;omega) (fun h=>⟨ht,?_⟩)
  refine HR (g:=g) ?_ ha.1
  rw [ez] at h
  split at h
  ·rw [ez] at h
   split at h
   ·assumption
   ·rename_i h1 h2;exact absurd h h2
  ·rename_i h1;exact absurd h h1
 ·refine Ztb g hg (by omega) _ c (by simp) Eh (by simp) (by omega) (fun x hx=>?_) hc
  rw [aN.1 hx]
  exact Ra ⟨by have:=ru.2;simp only;omega,by have:=ha.2;simp only;omega⟩ ⟨ru.1,ha.1⟩
theorem PX {i:Nat} {rt:Bool} {t:Tm} {s:mP} (h:s∈cT i rt t):s.i=i∧s.rt=rt∧t.pf s.p=some s.t∧s.p.length<t.size:=by
 unfold cT at h
 obtain ⟨p,hp,rfl⟩:=cn.1 h
 obtain ⟨p',rfl,h1,v,h2,_⟩:=H4 t [] p hp
 refine ⟨rfl,rfl,?_,by simpa using h1⟩
 simp only [bh,h2,br]
theorem DK:∀ (c:List Li) (i:Nat) (s:mP),s∈cK c i→∃ (j:Nat) (h:j<c.length),s.i=((i+j:Nat):Int)∧((c[j]).side s.rt).pf s.p=some s.t∧s.p.length<((c[j]).side s.rt).size
 | [],_,_,h=>by rw [cK] at h;cases h
 | l :: c,i,s,h=>by
  rw [cK] at h
  rcases aW.1 h with h | h
  ·refine ⟨0,by simp,?_⟩
   unfold kL at h
   rcases aW.1 h with h | h
   ·obtain ⟨h1,h2,h3,h4⟩:=PX h
    simp only [eG,Li.side,h2]
    exact ⟨h1,by simpa using h3,by simpa using h4⟩
   ·obtain ⟨h1,h2,h3,h4⟩:=PX h
    simp only [eG,Li.side,h2]
    exact ⟨h1,by simpa using h3,by simpa using h4⟩
  ·obtain ⟨j,hj,h1,h2,h3⟩:=DK c (i+1) s h
   exact ⟨j+1,by simpa using hj,by rw [h1];omega,by simpa using h2,by simpa using h3⟩
def j4 (g:List Sy) (c:List Li):Prop:=bd g c=0∧∀ l∈c,l.l.fit∧l.r.fit
theorem yV {g:List Sy} {c:List Li} (h:bd g c=0):fV g=true∧c.length≤32∧∀ l∈c,l.check g=0:=by
 unfold bd at h
 split at h
 ·cases h
 split at h
 ·cases h
 rename_i h1 h2
 refine ⟨by simpa using h1,by omega,?_⟩
 have key:∀ c:List Li,dA g c=0→∀ l∈c,l.check g=0:=by
  intro c
  induction c with
  | nil=>intro _ l hl;cases hl
  | cons a c ih =>
   intro h l hl
   rw [dA] at h
   split at h
   ·rename_i h3;exact absurd h h3
   ·rename_i h3
    rcases aQ.1 hl with rfl | hl
    ·simpa using h3
    ·exact ih h l hl
 exact key c h
theorem uE {g:List Sy} {c:List Li} (h:j4 g c) {l:Li} (hl:l∈c):jQ g l.l∧jQ g l.r:=by
 have h1:=A2 ((yV h.1).2.2 l hl)
 have h2:=h.2 l hl
 exact ⟨⟨h1.1,h2.1⟩,h1.2,h2.2⟩
theorem Ff {g:List Sy} {c:List Li} (h:j4 g c) {l:Li} (hl:l∈c) (b:Bool):jQ g (l.side b):=by
 unfold Li.side;split
 ·exact (uE h hl).2
 ·exact (uE h hl).1
theorem Y6 {g:List Sy} {c:List Li} (h:j4 g c):∀ l∈c,pE g l:=fun l hl=>by
 obtain ⟨h1,h2⟩:=uE h hl
 have s1:=qt h1
 have s2:=qt h2
 exact Ra ⟨by have:=s1.2;omega,by have:=s2.2;omega⟩ ⟨s1.1,s2.1⟩
theorem TH {u:Tm} (hu:u.fit):∀ (ts:List Tm) (i:Nat),Tm.fits ts→Tm.fits (ts.set i u)
 | [],_,h=>h
 | t :: ts,0,h=>⟨hu,h.2⟩
 | t :: ts,i+1,h=>⟨h.1,TH hu ts i h.2⟩
theorem QX (u:Tm):∀ (ts:List Tm) (i:Nat) (h:i<ts.length),Tm.bF (ts.set i u)+(ts[i]).size=Tm.bF ts+u.size
 | t :: ts,0,_=>by simp only [de,Tm.bF,eG];omega
 | t :: ts,i+1,h=>by simp only [cZ,Tm.bF,ix];have:=QX u ts i (by simpa using h);omega
theorem Oz:∀ (p:List Int) (t u v:Tm),t.pf p=some v→t.fit→u.fit→(t.k_ p u).fit∧(t.k_ p u).size+v.size=t.size+u.size
 | [],t,u,v,h,ht,hu=>by rw [Tm.pf] at h;cases h;rw [Tm.k_];exact ⟨hu,by omega⟩
 | n :: p,t,u,v,h,ht,hu=>by
  rw [Tm.pf] at h
  split at h
  ·cases h
  split at h
  ·rename_i h1 h2
   have hm:=aE h2
   have hg:t.args.getD n.toNat gT=t.args[n.toNat]:=by simp [List.getD,h2]
   obtain ⟨a1,a2⟩:=Oz p _ u v h (wA (xg ht) _ hm) hu
   rw [Tm.k_,hg]
   refine ⟨⟨E7 ht,TH a1 _ _ (xg ht)⟩,?_⟩
   have h3:=QX ((t.args[n.toNat]).k_ p u) t.args n.toNat h2
   have h4:=ov t
   rw [Tm.size]
   omega
  ·cases h
theorem Yom {c:List Li} {i:Nat} {u:Un} (h:u∈vK c i):∃ l:Li,[l]=c∧((u.l=l.l∧u.r=l.r)∨(u.l=l.r∧u.r=l.l)):=by
 unfold vK at h
 split at h
 ·split at h
  ·cases h
  ·simp only [aQ,en,or_false] at h
   rcases h with rfl | rfl
   ·exact ⟨_,rfl, .inl ⟨rfl,rfl⟩⟩
   ·exact ⟨_,rfl, .inr ⟨rfl,rfl⟩⟩
 ·cases h
theorem Us {u:Un}:∀ (es:List (List Li)) (i:Nat),u∈la es i→∃ l:Li,[l]∈es∧((u.l=l.l∧u.r=l.r)∨(u.l=l.r∧u.r=l.l))
 | [],i,h=>by rw [la] at h;cases h
 | c :: es,i,h=>by
  rw [la] at h
  rcases aW.1 h with h | h
  ·obtain ⟨l,h1,h2⟩:=Yom h
   exact ⟨l,by simp [h1],h2⟩
  ·obtain ⟨l,h1,h2⟩:=Us es (i+1) h
   exact ⟨l,cB _ h1,h2⟩
theorem Zun {es:List (List Li)} {u:Un} (h:u∈cU es):∃ l:Li,[l]∈es∧((u.l=l.l∧u.r=l.r)∨(u.l=l.r∧u.r=l.l)):=by
 unfold cU at h
 exact Us es 0 (List.mem_filter.1 h).1
theorem Uq:∀ (es:List (List Li)) (i:Nat),(la es i).length≤2*es.length
 | [],_=>by rw [la];exact ah _
 | c :: es,i=>by
  rw [la,ay]
  have:=Yp5 c i
  have:=Uq es (i+1)
  simp only [ax];omega
theorem Zue (es:List (List Li)):(cU es).length≤2*es.length:=by
 have:=Uq es 0
 have h2:(cU es).length≤(la es 0).length:=List.length_filter_le _ _
 omega
theorem DH {g:List Sy}:∀ {l:List (List Li)},cM g l=0→∀ c∈l,bd g c=0
 | [],_,c,hc=>by cases hc
 | a :: l,h,c,hc=>by
  rw [cM] at h
  split at h
  ·rename_i h1;exact absurd h h1
  ·rename_i h1
   rcases aQ.1 hc with rfl | hc
   ·simpa using h1
   ·exact DH h c hc
def py (c:List Li):Prop:=∀ l∈c,l.l.fit∧l.r.fit
theorem QY {g:List Sy} {es:List (List Li)} (hc:∀ c∈es,bd g c=0) (hf:∀ c∈es,py c) {u:Un} (h:u∈cU es):jQ g u.l∧jQ g u.r:=by
 obtain ⟨l,h1,h2⟩:=Zun h
 have h3:=uE (g:=g) (c:=[l]) ⟨hc _ h1,hf _ h1⟩ (aN.2 rfl)
 rcases h2 with ⟨e1,e2⟩ | ⟨e1,e2⟩
 ·rw [e1,e2];exact h3
 ·rw [e1,e2];exact ⟨h3.2,h3.1⟩
theorem Yrs {c:List Li} {s:mP} {i:Nat} (h:i<c.length) (hi:s.i=i) (u:Tm):kO c s u=c.set i (c[i].sN s.rt ((c[i].side s.rt).k_ s.p u)):=by
 have:s.i.toNat=i:=by omega
 unfold kO
 rw [this,aA h]
theorem T1 {g:List Sy} {c:List Li} (hc:j4 g c) {s:mP} (hs:s∈cK c 0) {u:Tm} (hu:u.fit):py (kO c s u)∧∀ l∈kO c s u,l.l.size≤400+u.size∧l.r.size≤400+u.size:=by
 obtain ⟨j,hj,h1,h2,h3⟩:=DK c 0 s hs
 rw [bm] at h1
 have hm:=aE hj
 have ua:=Ff hc hm s.rt
 obtain ⟨p1,p2⟩:=Oz s.p _ u s.t h2 ua.2 hu
 have hss:=(qt ua).2
 have nE:=zF s.t
 rw [Yrs hj h1]
 have key:∀ l∈c.set j (c[j].sN s.rt ((c[j].side s.rt).k_ s.p u)),(l.l.fit∧l.r.fit)∧l.l.size≤400+u.size∧l.r.size≤400+u.size:=fun l hl=>by
  rcases List.mem_or_eq_of_mem_set hl with hl | rfl
  ·obtain ⟨a1,a2⟩:=uE hc hl
   have b1:=(qt a1).2
   have b2:=(qt a2).2
   exact ⟨⟨a1.2,a2.2⟩,by omega,by omega⟩
  ·obtain ⟨a1,a2⟩:=uE hc hm
   have b1:=(qt a1).2
   have b2:=(qt a2).2
   unfold Li.sN
   split
   ·exact ⟨⟨a1.2,p1⟩,by simp only;omega,by simp only;omega⟩
   ·exact ⟨⟨p1,a2.2⟩,by simp only;omega,by simp only;omega⟩
 exact ⟨fun l hl=>(key l hl).1,fun l hl=>(key l hl).2⟩
def fb (g:List Sy) (us:List Un) (c:List Li):List Li×Int×Bool×Int:=lu g (TT g c) us c
theorem Zu (g:List Sy) (us:List Un) (c:List Li) (wT:us.length<1000000) (hu:∀ u∈us,jQ g u.l∧jQ g u.r) (hc:j4 g c) :
  aJ Tryz.prog 109 [.ps 4 (syms g), .ps 5 (iZ us), .ps 5 (lits c)] (.dz [.ps 5 (lits (fb g us c).1), .int .i64 (fb g us c).2.1, .bool (fb g us c).2.2.1, .int .i64 (fb g us c).2.2.2]):=by
 obtain ⟨Da,gK,_⟩:=yV hc.1
 have zo:∀ s∈cK c 0,jo g s.t∧Dw s.t∧c≠[]:=fun s hs=>by
  obtain ⟨j,hj,h1,h2,h3⟩:=DK c 0 s hs
  have ua:=Ff hc (aE hj) s.rt
  exact ⟨Fu (WV g) _ _ _ (Iy ua) h2,Fu H3 _ _ _ (qt ua) h2,by rintro rfl;simp at hj⟩
 have Nt:∀ u∈us, ∀ s∈cK c 0,(TT g c u s).1.fit∧(TT g c u s).1.size≤160000:=fun u uI s hs=>TE (hu u uI).2 (zo s hs).2.1
 refine Zf g us c (TT g c) wT (by omega) (fun l hl=>?_) (fun u uI s hs=>?_) (fun u uI s hs=>?_) (fun u uI s hs _=>?_)
 ·obtain ⟨a1,a2⟩:=uE hc hl
  exact ⟨(qt a1).2,(qt a2).2⟩
 ·obtain ⟨h1,h2,h3⟩:=zo s hs
  exact Yk1 g Da u s.t c (hu u uI).1 (hu u uI).2 h1 h2 h3 (by omega) (Y6 hc)
 ·obtain ⟨j,hj,h1,h2,h3⟩:=DK c 0 s hs
  have ua:=(qt (Ff hc (aE hj) s.rt)).2
  exact Yo4 c s _ s.t j hj (by rw [h1];simp) h2 (by omega) (by omega) (by omega)
 ·obtain ⟨h1,h2⟩:=Nt u uI s hs
  have h3:=(T1 hc hs h1).2
  exact E0 g _ (fun i hi=>by have:=h3 _ (aE hi);omega)
theorem J1 {T:Un→mP→Tm×Bool} {s:mP} {x:Un×Tm}:∀ {us:List Un},gk T s us=some x→x.1∈us∧x.2=(T x.1 s).1∧(T x.1 s).2=true
 | [],h=>by rw [gk] at h;cases h
 | u :: us,h=>by
  rw [gk] at h
  split at h
  ·rename_i h1;cases h;exact ⟨by simp,rfl,h1⟩
  ·obtain ⟨a1,a2⟩:=J1 h
   exact ⟨cB _ a1,a2⟩
theorem Ub {g:List Sy} {us:List Un} {c:List Li} (hu:∀ u∈us,jQ g u.l∧jQ g u.r) (hc:j4 g c) (h0:(fb g us c).2.2.2=0):j4 g (fb g us c).1:=by
 unfold fb lu at h0 ⊢
 rcases EO (TT g c) us (cK c 0) with ⟨f1,_⟩ | ⟨k,hk,x,f1,f2,_⟩
 ·rw [f1];exact hc
 ·rw [f1] at h0 ⊢
  simp only at h0 ⊢
  split
  ·rename_i h1
   obtain ⟨m1,m2,_⟩:=J1 f2
   have hs:=aE hk
   obtain ⟨j,hj,g1,g2,g3⟩:=DK c 0 _ hs
   have sE:=Fu H3 _ _ _ (qt (Ff hc (aE hj) _)) g2
   refine ⟨h1,?_⟩
   rw [m2]
   exact (T1 hc hs (TE (c:=c) (hu _ m1).2 sE).1).1
  ·rename_i h1
   rw [if_neg h1] at h0
   exact absurd h0 h1
end Go.Proofs
namespace Go.Proofs
open Go Go.c8
attribute [local go_sem] Nat.reduceAdd Nat.reduceSub Nat.reduceMul Nat.reduceLeDiff Nat.reduceEqDiff Nat.reduceBEq Nat.reduceLT Nat.le_refl Int.natCast_zero Nat.sub_zero List.length_map Int.toNat_natCast Int.natCast_one Int.reduceEq Int.reduceLT Int.reduceLE Int.reduceNe Int.sub_zero Int.zero_add Int.toNat_one
def wq (g:List Sy) (es:List (List Li)) (c:List Li):List Li×Int×Bool×Int:=if cM g (c :: es)≠0 then ([],0,false,cM g (c :: es)) else fb g (cU es) c
def cz (g:List Sy) (es:List (List Li)) (c:List Li):List Li×List Int×Int:=gq (cM g (c :: es)) (fb g (cU es)) c
def sG (es:List (List Li)) (c:List Li):Prop:=es.length<400000∧∀ x∈c :: es,ou x∧py x
theorem Fy {g:List Sy} {es:List (List Li)} {c:List Li} (h:sG es c) (hw:cM g (c :: es)=0):j4 g c∧(∀ u∈cU es,jQ g u.l∧jQ g u.r)∧∀ x∈es,Je x:=by
 have hw:=DH hw
 have h1:∀ x∈es,j4 g x:=fun x hx=>⟨hw x (by simp [hx]),(h.2 x (by simp [hx])).2⟩
 refine ⟨⟨hw c (by simp),(h.2 c (by simp)).2⟩,fun u hu=>QY (g:=g) (fun x hx=>(h1 x hx).1) (fun x hx=>(h1 x hx).2) hu,fun x hx l hl=>?_⟩
 obtain ⟨a1,a2⟩:=uE (h1 x hx) hl
 have b1:=qt a1
 have b2:=qt a2
 exact ⟨⟨b1.1,by have:=b1.2;omega⟩,b2.1,by have:=b2.2;omega⟩
theorem Yky (g:List Sy) (es:List (List Li)) (c:List Li) (h:sG es c) :
  aJ Tryz.prog 68 [.ps 4 (syms g), .ps 1 (cX es), .ps 5 (lits c)] (.dz [.ps 5 (lits (cz g es c).1), .ps 1 (ints (cz g es c).2.1), .int .i64 (cz g es c).2.2]):=by
 have hlen:=Zue es
 exact XU g es (cU es) c (cM g (c :: es)) (fb g (cU es)) (fun d=>cM g (c :: es)=0∧j4 g d)
  (Xm g es c (fun x hx=>(h.2 x hx).1) (by have:=h.1;omega)) (fun h0=>WQ es (by have:=h.1;omega) (Fy h h0).2.2) (fun h0=>⟨h0,(Fy h h0).1⟩)
  (fun d hd e _=>⟨hd.1,Ub (Fy h hd.1).2.1 hd.2 e⟩) (fun d hd=>Zu g (cU es) d (by have:=h.1;omega) (Fy h hd.1).2.1 hd.2)
theorem Yoj (n:Int) (hn : -1000000≤n∧n≤1000000):aJ Tryz.prog 42 [.int .i64 n] (Tm.mk (-1 - n) []).aO:=by
 refine aJ.begin (rs:=[.cell 2 70]) (m:=5) 1000 Tryz.func42 rfl rfl rfl (by decide) (dC _) ?_
 have hw:IntKind.i64.wrap (-1 - n) = -1 - n:=ek (by omega)
 simp only [go_sem,hw,dc]
 exact ⟨rfl,rfl⟩
theorem Ix (n:Int) (ts:List Tm):aJ Tryz.prog 43 [.int .i64 n, .ps 2 (ts.map Tm.aO)] (Tm.mk n ts).aO:=by
 refine aJ.begin (rs:=[.cell 4 70]) (m:=6) 1000 Tryz.func43 rfl rfl rfl (by decide) (dC _) ?_
 simp only [go_sem,dc]
 exact ⟨rfl,cE _ _ _⟩
def vF (a b:Int):Int:=if a<b then -1 else if b<a then 1 else 0
theorem Ls {a b:Int} (h:a≠b):vF a b≠0:=by unfold vF;split<;>(try split)<;>omega
theorem Ky (a b:Int):aJ Tryz.prog 155 [.int .i64 a, .int .i64 b] (.int .i64 (vF a b)):=by
 refine aJ.begin (rs:=[.tmp 4]) (m:=9) 1000 Tryz.func155 rfl rfl rfl (by decide) trivial ?_
 unfold vF
 by_cases h1:a<b
 ·simp only [go_sem,h1]
 ·by_cases h2:b<a
  ·simp only [go_sem,h1,h2]
  ·simp only [go_sem,h1,h2]
mutual
def Tm.cmp:Tm→Tm→Int
 | .mk h ts,u=>if ((Tm.mk h ts).size:Int)≠u.size then vF (Tm.mk h ts).size u.size else if h≠u.head then vF h u.head else if (ts.length:Int)≠u.args.length then vF ts.length u.args.length else Tm.lQ ts u.args
def Tm.lQ:List Tm→List Tm→Int
 | [],_=>0
 | _ :: _,[]=>0
 | t :: ts,u :: us=>if t.cmp u≠0 then t.cmp u else Tm.lQ ts us
end
mutual
theorem Pe:∀ t u:Tm,t.cmp u=0↔t=u
 | .mk h ts, .mk k us=>by
  rw [Tm.cmp]
  by_cases h1:((Tm.mk h ts).size:Int)=(Tm.mk k us).size
  ·rw [if_neg (by simpa using h1)]
   by_cases h2:h=k
   ·subst h2
    rw [if_neg (by simp [Tm.head])]
    by_cases h3:(ts.length:Int)=us.length
    ·rw [if_neg (by simpa [Tm.args] using h3)]
     rw [show (Tm.mk h us).args=us from rfl,Oy ts us (by omega)]
     simp
    ·rw [if_pos (by simpa [Tm.args] using h3)]
     refine ⟨fun e=>absurd e (Ls (by simpa [Tm.args] using h3)),fun e=>?_⟩
     cases e;exact absurd rfl h3
   ·rw [if_pos (by simpa [Tm.head] using h2)]
    refine ⟨fun e=>absurd e (Ls (by simpa [Tm.head] using h2)),fun e=>?_⟩
    cases e;exact absurd rfl h2
  ·rw [if_pos (by simpa using h1)]
   refine ⟨fun e=>absurd e (Ls h1),fun e=>?_⟩
   rw [e] at h1;exact absurd rfl h1
theorem Oy:∀ ts us:List Tm,ts.length=us.length→(Tm.lQ ts us=0↔ts=us)
 | [],[],_=>by simp [Tm.lQ]
 | t :: ts,u :: us,hl=>by
  rw [Tm.lQ]
  have h1:=Pe t u
  have h2:=Oy ts us (by simpa using hl)
  by_cases h3:t.cmp u=0
  ·rw [if_neg (by simp [h3]),h2,h1.1 h3];simp
  ·rw [if_pos h3]
   refine ⟨fun e=>absurd e h3,fun e=>?_⟩
   cases e;exact absurd (h1.2 rfl) h3
end
theorem Zu1 (t:Tm):∀ u:Tm,t.size<2 ^ 62→u.size<2 ^ 62→aJ Tryz.prog 129 [t.aO,u.aO] (.int .i64 (t.cmp u)):=by
 induction t using Tm.kQ with
 | h h ts ih =>
 intro u hs hu
 obtain ⟨k,us,rfl⟩:∃ k us,u=Tm.mk k us:=⟨u.head,u.args,by cases u;rfl⟩
 have fQ:=OB (Tm.mk h ts) hs
 have Ni:=OB (Tm.mk k us) hu
 have bD:=p5 ts
 have I2:=p5 us
 have fF:(Tm.mk h ts).size=1+Tm.bF ts:=rfl
 have GJ:(Tm.mk k us).size=1+Tm.bF us:=rfl
 refine aJ.begin (rs:=[.tmp 4]) (m:=60) 1000 Tryz.func129 rfl rfl rfl (by decide) trivial ?_
 rw [Tm.cmp,show (Tm.mk k us).args=us from rfl,show (Tm.mk k us).head=k from rfl]
 generalize (Tm.mk h ts).size=n1 at *
 generalize (Tm.mk k us).size=n2 at *
 simp only [go_sem,ft,Tm.head,Tm.args]
 refine aK.draw [] 2 2 mixed rfl rfl (by decide) ?_
 simp only [go_sem,dx]
 refine ny (fQ) (by (try simp only [dc]);exact cE _ _ _) (by simp [go_sem,dC,bQ]) ?_
 simp only [go_sem]
 refine ny (Ni) (by (try simp only [dc]);exact cE _ _ _) (by simp [go_sem,dC,bQ]) ?_
 simp only [go_sem]
 refine aK.go 1000 ?_
 by_cases c1:(n1:Int)=n2
 ·rw [if_neg (by simpa using c1)]
  by_cases c2:h=k
  ·rw [if_neg (fun e=>e c2)]
   by_cases c3:(ts.length:Int)=us.length
   ·rw [if_neg (fun e=>e c3)]
    obtain ⟨Z,hZ⟩:∃ Z,Tm.lQ ts us=Z:=⟨_,rfl⟩
    rw [hZ]
    simp only [go_sem,c1,c2,c3,Tm.head,Tm.args]
    refine aK.c_ (ι:={i:Nat // i≤ts.length∧Tm.lQ (ts.drop i) (us.drop i)=Z}) 1000 (fun q=>fG 62 [(2, .ptr 0 0),(3, .ptr 1 0),(4, .int .i64 0),(5, .int .i64 q.1)])
     (fun _=>[some (.var [.int .i64 h, .ps 2 (ts.map Tm.aO)]),some (.var [.int .i64 k, .ps 2 (us.map Tm.aO)])]) (fun q=>ts.length - q.1) ⟨0,by omega,by simpa using hZ⟩ ?_ (fun _=>by simp) ?_
    ·simp only [go_sem,bQ,c2]
    ·rintro ⟨i,hi,aP⟩
     by_cases bD:(i:Int)<ts.length
     ·have aZ:i<ts.length:=by omega
      have C3:i<us.length:=by omega
      have Gu:(i:Int)<us.length:=by omega
      have hw:IntKind.i64.wrap ((i:Int)+1)=((i+1:Nat):Int):=by rw [ek (by omega)];omega
      have g1:(ts.map Tm.aO).getD i .undef=ts[i].aO:=nO aZ
      have g2:(us.map Tm.aO).getD i .undef=us[i].aO:=nO C3
      have z1:=AZ ts i aZ
      have z2:=AZ us i C3
      have hc:=ih i aZ us[i] (by omega) (by omega)
      rw [ao aZ,ao C3,Tm.lQ] at aP
      generalize ts[i]=x at *
      generalize us[i]=y at *
      simp only [go_sem,bD]
      refine aK.draw [] 2 2 mixed rfl rfl (by decide) ?_
      simp only [go_sem,dx,g1,g2,ft,bD,Gu]
      (repeat ((with_reducible refine And.intro ?_ ?_); ·omega))
      refine ny (hc) (by (try simp only [dc]);exact cE _ _ _) (by simp [go_sem,dC,bQ]) ?_
      simp only [go_sem]
      refine aK.go 1000 ?_
      by_cases c4:x.cmp y=0
      ·rw [if_neg (by simp [c4])] at aP
       simp only [go_sem,c4,hw]
       refine ⟨⟨i+1,by omega,aP⟩,?_,by simp only;omega⟩
       simp only [go_sem,bQ]
      ·rw [if_pos c4] at aP
       simp only [go_sem,c4]
       refine aK.go 1000 ?_
       simp only [go_sem,aP]
     ·have dP:i=ts.length:=by omega
      subst dP
      rw [aV,Tm.lQ] at aP
      simp only [go_sem,bD]
      refine aK.go 1000 ?_
      simp only [go_sem,aP]
   ·rw [if_pos c3]
    simp only [go_sem,c1,c2,c3,Tm.head,Tm.args]
    refine aq.bU [] (Ky ts.length us.length) (by (try simp only [dc]);exact cE _ _ _) (by simp [go_sem,dC,bQ]) ?_;simp only [bO,bX,bW,if_true];refine aK.go 1000 ?_
    simp only [go_sem]
  ·rw [if_pos c2]
   simp only [go_sem,c1,c2,Tm.head,Tm.args]
   refine aq.bU [] (Ky h k) (by (try simp only [dc]);exact cE _ _ _) (by simp [go_sem,dC,bQ]) ?_;simp only [bO,bX,bW,if_true];refine aK.go 1000 ?_
   simp only [go_sem]
 ·rw [if_pos c1]
  simp only [go_sem,c1]
  refine aK.draw [] 2 2 mixed rfl rfl (by decide) ?_
  simp only [go_sem,dx]
  refine ny (fQ) (by (try simp only [dc]);exact cE _ _ _) (by simp [go_sem,dC,bQ]) ?_
  simp only [go_sem]
  refine ny (Ni) (by (try simp only [dc]);exact cE _ _ _) (by simp [go_sem,dC,bQ]) ?_
  simp only [go_sem]
  refine ny (Ky n1 n2) (by (try simp only [dc]);exact cE _ _ _) (by simp [go_sem,dC,bQ]) ?_
  simp only [go_sem]
  refine aK.go 1000 ?_
  simp only [go_sem]
theorem Uv (t u:Tm) (ht:t.size<2 ^ 62) (hu:u.size<2 ^ 62):aJ Tryz.prog 88 [t.aO,u.aO] (.bool (decide (t=u))):=by
 have hc:=Zu1 t u ht hu
 have he:=Pe t u
 refine aJ.begin (rs:=[.tmp 4]) (m:=7) 1000 Tryz.func88 rfl rfl rfl (by decide) trivial ?_
 simp only [go_sem,ft]
 refine aq.bU [] (hc) (by (try simp only [dc]);exact cE _ _ _) (by simp [go_sem,dC,bQ]) ?_;simp only [bO,bX,bW,if_true];refine aK.go 1000 ?_
 by_cases h:t=u
 ·subst h
  simp only [go_sem,he.2 rfl,decide_true]
 ·simp only [go_sem,show ¬ t.cmp u=0 from fun e=>h (he.1 e),h,decide_false]
def Li.Cv (a b:Li):Bool:=decide (a.neg=b.neg)&&(decide (a.l=b.l)&&decide (a.r=b.r))
theorem Ysw {a b:Li}:a.Cv b=true↔a=b:=by
 cases a;cases b;simp [Li.Cv]
theorem V4 (a b:Li) (ha:a.l.size<2 ^ 62∧a.r.size<2 ^ 62) (hb:b.l.size<2 ^ 62∧b.r.size<2 ^ 62):aJ Tryz.prog 53 [a.aO,b.aO] (.bool (a.Cv b)):=by
 have h1:=Uv a.l b.l ha.1 hb.1
 have h2:=Uv a.r b.r ha.2 hb.2
 refine aJ.begin (rs:=[.tmp 4]) (m:=22) 1000 Tryz.func53 rfl rfl rfl (by decide) trivial ?_
 unfold Li.Cv
 simp only [go_sem,ky]
 by_cases c1:a.neg=b.neg
 ·have LM:(a.neg==b.neg)=true:=by simp [c1]
  simp only [go_sem,LM,c1,decide_true,ct]
  refine aq.bU [] (h1) (by (try simp only [dc]);exact cE _ _ _) (by simp [go_sem,dC,bQ]) ?_;simp only [bO,bX,bW,if_true];refine aK.go 1000 ?_
  by_cases c2:a.l=b.l
  ·simp only [go_sem,c2,decide_true,ct]
   refine aq.bU [] (h2) (by (try simp only [dc]);exact cE _ _ _) (by simp [go_sem,dC,bQ]) ?_;simp only [bO,bX,bW,if_true];refine aK.go 1000 ?_
   simp only [go_sem]
  ·simp only [go_sem,c2,decide_false,db]
 ·have LM:(a.neg==b.neg)=false:=by simp [c1]
  simp only [go_sem,LM,c1,decide_false,db]
def pq:List Li→List Li→Bool
 | [],[]=>true
 | a :: c,b :: d=>a.Cv b&&pq c d
 | _,_=>false
theorem Ld:∀ c d:List Li,pq c d=true↔c=d
 | [],[]=>by simp [pq]
 | [],_ :: _=>by simp [pq]
 | _ :: _,[]=>by simp [pq]
 | a :: c,b :: d=>by simp [pq,Ysw,Ld c d]
def Dv (c:List Li):Prop:=∀ l∈c,l.l.size<2 ^ 62∧l.r.size<2 ^ 62
theorem Yl {a b:List Li} (h:a.length=b.length) {i:Nat} (h1:i<a.length) (h2:i<b.length):pq (a.drop i) (b.drop i)=(a[i].Cv b[i]&&pq (a.drop (i+1)) (b.drop (i+1))):=by
 rw [ao h1,ao h2,pq]
theorem Ztq (a b:List Li) (ha:Dv a) (hb:Dv b) (hl:a.length<2 ^ 62):aJ Tryz.prog 19 [.ps 5 (lits a), .ps 5 (lits b)] (.bool (pq a b)):=by
 refine aJ.begin (rs:=[.tmp 4]) (m:=25) 1000 Tryz.func19 rfl rfl rfl (by decide) trivial ?_
 obtain ⟨Z,hZ⟩:∃ Z,pq a b=Z:=⟨_,rfl⟩
 rw [hZ]
 by_cases c1:(a.length:Int)=b.length
 ·simp only [go_sem,fP,c1]
  refine aK.c_ (ι:={i:Nat // i≤a.length∧pq (a.drop i) (b.drop i)=Z}) 1000 (fun q=>fG 27 [(0, .ps 5 (lits a)),(1, .ps 5 (lits b)),(4, .bool false),(5, .int .i64 q.1)])
   (fun _=>[]) (fun q=>a.length - q.1) ⟨0,by simpa using hZ⟩ ?_ (fun _=>av _) ?_
  ·simp only [go_sem,cr]
  ·rintro ⟨i,hi,aP⟩
   by_cases bD:(i:Int)<a.length
   ·have aZ:i<a.length:=by omega
    have C2:i<b.length:=by omega
    have Gt:(i:Int)<b.length:=by omega
    have hw:IntKind.i64.wrap ((i:Int)+1)=((i+1:Nat):Int):=by rw [ek (by omega)];omega
    have g1:=tu aZ
    have g2:=tu C2
    have hc:=V4 a[i] b[i] (ha _ (aE aZ)) (hb _ (aE C2))
    rw [Yl (by omega) aZ C2] at aP
    generalize a[i]=x at *
    generalize b[i]=y at *
    simp only [go_sem,fP,bD]
    refine aK.draw [] 0 0 mixed rfl rfl (by decide) ?_
    simp only [go_sem,dx,g1,g2,ky,bD,Gt,fP]
    (repeat ((with_reducible refine And.intro ?_ ?_); ·omega))
    refine ny hc (cE _ _ _) ⟨mR _,mR _,trivial⟩ ?_
    simp only [go_sem]
    refine aK.go 1000 ?_
    cases c4:x.Cv y with
    | true =>
     rw [c4,ct] at aP
     simp only [go_sem,hw]
     refine ⟨⟨i+1,by omega,aP⟩,?_,by simp only;omega⟩
     simp only [go_sem,cr]
    | false =>
     rw [c4,db] at aP
     simp only [go_sem]
     refine aK.go 1000 ?_
     simp only [go_sem,aP]
   ·have dP:i=a.length:=by omega
    subst dP
    have:b.drop a.length=[]:=fJ (by omega)
    rw [aV,this,pq] at aP
    subst aP
    simp only [go_sem,fP,bD]
    refine aK.go 1000 ?_
    simp only [go_sem]
 ·have:Z=false:=by
   rw [← hZ,← da,Ld]
   rintro rfl;exact c1 rfl
  rw [this]
  simp only [go_sem,fP,c1]
def od (m:Int):List Tm→Int→Int
 | [],n=>n
 | t :: ts,n=>if n≤m then od m ts (n+t.rR m) else n
theorem Rc {m:Int} (hm : 0≤m):∀ (ts:List Tm) (n:Int),0≤n→n≤2*m+1→0≤od m ts n∧(od m ts n≤m→od m ts n=n+Tm.bF ts)
 | [],n,h,_=>⟨by simp [od,h],fun _=>by simp [od,Tm.bF]⟩
 | t :: ts,n,h,h2=>by
  have hb:=B3 t m hm
  simp only [od]
  split
  ·obtain ⟨h3,h4⟩:=Rc hm ts (n+t.rR m) (by omega) (by omega)
   refine ⟨h3,fun h5=>?_⟩
   have h6:=h4 h5
   have h7:=Kw t m hm (by
    have:(0:Int)≤Tm.bF ts:=by omega
    omega)
   simp only [Tm.bF];omega
  ·exact ⟨h,fun h5=>by omega⟩
def pw (c:List Li):Bool:=decide (od 80 (cR c) 0≤80)&&decide (c.length≤8)
theorem Sx (c:List Li) (hc:c.length≤2600000000000):aJ Tryz.prog 23 [.ps 5 (lits c)] (.bool (pw c)):=by
 refine aJ.begin (rs:=[.tmp 2]) (m:=31) 1000 Tryz.func23 rfl rfl rfl (by decide) trivial ?_
 simp only [go_sem]
 refine aq.bU [] (QO c hc) (cE _ _ _) ⟨cr _,trivial⟩ ?_
 rw [jb];simp only [ite_self]
 refine aK.go 1000 ?_
 have yn:=EW c
 have hF:pw c=(decide (od 80 (cR c) 0≤80)&&decide (c.length≤8)):=rfl
 rw [hF]
 generalize cR c=ts at *
 simp only [go_sem]
 refine aK.c_ (ι:={p:Nat×Int // p.1≤ts.length∧0≤p.2∧p.2≤161∧od 80 (ts.drop p.1) p.2=od 80 ts 0}) 1000 (fun p=>fG 32 [(0, .ps 5 (lits c)),(2, .bool false),(3, .int .i64 p.1.2),(4, .ps 2 (ts.map Tm.aO)),(5, .int .i64 p.1.1)]) (fun _=>[]) (fun p=>ts.length - p.1.1) ⟨(0,0),by simp⟩ ?_ (fun _=>av _) ?_
 ·simp only [go_sem,bQ,cr]
 ·rintro ⟨⟨i,n⟩,hi,h1,h2,h3⟩
  simp only at hi h1 h2 h3
  by_cases bD:(i:Int)<ts.length
  ·have aZ:i<ts.length:=by omega
   by_cases hn:n≤80
   ·simp only [go_sem,ak,bD,hn,nO aZ,ft]
    refine ⟨by omega,?_⟩
    refine aq.bU [] (Ut ts[i] 80 (by omega) (by omega)) (by (try simp only [dc]);exact cE _ _ _) (by simp [go_sem,dC,bQ]) ?_;simp only [bO,bX,bW,if_true];refine aK.go 1000 ?_
    simp only [go_sem]
    have hb:=B3 ts[i] 80 (by omega)
    refine ⟨⟨(i+1,n+ts[i].rR 80),aZ,by simp only;omega,by simp only;omega,?_⟩,?_,by simp only;omega⟩
    ·simp only
     rw [← h3,ao aZ,od,if_pos hn]
    ·simp only [go_sem,bQ,cr]
     rw [ek (by omega),ek (by omega)]
     simp
   ·simp only [go_sem,ak,bD,hn]
    refine aK.go 1000 ?_
    have:od 80 (ts.drop i) n=n:=by cases ts.drop i<;>simp [od,hn]
    rw [← h3,this]
    simp only [go_sem,hn,decide_false,db]
  ·simp only [go_sem,ak,bD]
   refine aK.go 1000 ?_
   have:i=ts.length:=by omega
   subst this
   rw [← h3,aV,od]
   by_cases hn:n≤80
   ·simp only [go_sem,hn,decide_true,ct,fP]
    congr 1
    simp;omega
   ·simp only [go_sem,hn,decide_false,db]
def ko:List (List Li)→Int→Bool×Int
 | [],n=>(true,n)
 | c :: es,n=>if iG c then ko es (n+c.length) else (false,n)
def oM (es:List (List Li)):Bool:=decide (es.length≤8)&&((ko es 0).1&&decide ((ko es 0).2≤40))
theorem XT (es:List (List Li)):aJ Tryz.prog 25 [.ps 1 (cX es)] (.bool (oM es)):=by
 refine aJ.begin (rs:=[.tmp 2]) (m:=35) 1000 Tryz.func25 rfl rfl rfl (by decide) trivial ?_
 simp only [go_sem]
 by_cases h8:(es.length:Int)≤8
 ·have h8':es.length≤8:=by omega
  refine aK.c_ (ι:={p:Nat×Int // p.1≤es.length∧0≤p.2∧p.2≤40*p.1∧ko (es.drop p.1) p.2=ko es 0}) 1000 (fun p=>fG 36 [(0, .ps 1 (cX es)),(2, .bool false),(3, .int .i64 p.1.2),(4, .int .i64 p.1.1)]) (fun _=>[]) (fun p=>es.length - p.1.1) ⟨(0,0),by simp⟩ ?_ (fun _=>av _) ?_
  ·simp only [go_sem,fe]
  ·rintro ⟨⟨i,n⟩,hi,h1,h2,h3⟩
   simp only at hi h1 h2 h3
   by_cases bD:(i:Int)<es.length
   ·have aZ:i<es.length:=by omega
    have hw:IntKind.i64.wrap ((i:Int)+1)=((i+1:Nat):Int):=by rw [ek (by omega)];omega
    have g1:=y5 aZ
    rw [ao aZ,ko] at h3
    generalize es[i]=c at *
    simp only [go_sem,mH,bD,h8,g1]
    refine ⟨by omega,?_⟩
    refine aq.bU [] (Rb c) (cE _ _ _) (by simp [go_sem,cr]) ?_;simp only [bO,bX,bW,if_true];refine aK.go 1000 ?_
    cases hf:iG c with
    | true =>
     rw [hf,if_pos rfl] at h3
     have gK:c.length≤40:=by
      unfold iG at hf
      simp only [aD,decide_eq_true_eq] at hf
      exact hf.1
     simp only [go_sem,g1,fP,mH,bD,h8]
     (repeat ((with_reducible refine And.intro ?_ ?_); ·omega))
     refine ⟨⟨(i+1,n+c.length),aZ,by simp only;omega,by simp only;omega,h3⟩,?_,by simp only;omega⟩
     simp only [go_sem,fe,hw]
     rw [ek (by omega)]
    | false =>
     rw [hf,if_neg (by simp)] at h3
     have hF:oM es=false:=by unfold oM;rw [← h3];simp
     simp only [go_sem]
     refine aK.go 1000 ?_
     simp only [go_sem,hF]
   ·simp only [go_sem,mH,bD]
    refine aK.go 1000 ?_
    have:i=es.length:=by omega
    subst this
    rw [aV,ko] at h3
    unfold oM
    rw [← h3]
    simp only [go_sem,mH,h8,h8',decide_true,ct]
 ·refine aK.c_ (ι:=Unit) 1000 (fun p=>fG 36 [(0, .ps 1 (cX es)),(2, .bool false),(3, .int .i64 0),(4, .int .i64 0)]) (fun _=>[]) (fun p=>0) () ?_ (fun _=>av _) ?_
  ·simp only [go_sem,fe]
  ·rintro ⟨⟩
   have bD:(0:Int)<es.length:=by omega
   have hF:oM es=false:=by
    unfold oM
    rw [show decide (es.length≤8)=false from by simp;omega]
    rfl
   simp only [go_sem,mH,bD,h8]
   refine aK.go 1000 ?_
   simp only [go_sem,mH,h8,hF]
def rN:List Sy:=[⟨⟨#[36,116,114,117,101]⟩,0,1,true⟩,⟨⟨#[97]⟩,0,1,false⟩,⟨⟨#[102]⟩,1,1,false⟩,⟨⟨#[112]⟩,1,1,true⟩]
def gO:Tm:=.mk (-1) []
def ie:Tm:=.mk 1 []
def nM:List (List Li):=[[⟨false, .mk 2 [gO],gO⟩]]
def ij (t:Tm):List Li:=[⟨false, .mk 3 [t], .mk 0 []⟩]
def ig (t:Tm):Tm:=.mk 2 [t]
theorem ZS (t:Tm):(ig t).aO = .agg [.int .i64 2, .ps 2 [.agg [.int .i64 t.head, .ps 2 (t.args.map Tm.aO)]]]:=by
 rw [ig,dc,← dc t];rfl
theorem yX (t:Tm):bO (ig t).aO=false:=by rw [ZS];rfl
theorem Fo (t:Tm):aJ Tryz.prog 43 [.int .i64 2, .ps 2 [t.aO]] (ig t).aO:=Ix 2 [t]
@[go_sem] theorem Ywq (t:Tm):(cJ t.aO=true)=True:=eq_true (by rw [dc];rfl)
theorem OW (l:Li) (h1:l.l.size<1000∧l.r.size<1000) (h2:l.l.fit∧l.r.fit):ou [l]∧py [l]:=by
 refine ⟨fun i h=>?_,fun x hx=>?_⟩
 ·have:i=0:=by simpa using h
  subst this
  simp only [eG];omega
 ·rw [aN.1 hx];exact h2
theorem Fq:gO.fit∧ie.fit∧(ig gO).fit∧(ig (ig ie)).fit∧∀ t:Tm,t.fit→(Tm.mk 3 [t]).fit:=by
 refine ⟨?_,?_,?_,?_,fun t h=>?_⟩<;>simp [gO,ie,ig,Tm.fit,Tm.fits,n5]
 exact h
theorem Ol:∀ x∈nM,ou x∧py x:=fun x hx=>by
 have:x=[⟨false, .mk 2 [gO],gO⟩]:=by simpa [nM] using hx
 subst this
 exact OW _ (by decide) ⟨Fq.2.2.1,Fq.1⟩
theorem Lg (t:Tm) (h:t.size<100) (hf:t.fit):ou (ij t)∧py (ij t):=OW _ ⟨by simp [Tm.size,Tm.bF];omega,by simp [Tm.size,Tm.bF]⟩ ⟨Fq.2.2.2.2 t hf,by simp [Tm.fit,Tm.fits,n5]⟩
theorem Yu5 (t:Tm) (h:t.size<100) (hf:t.fit):sG nM (ij t):=⟨by decide,fun x hx=>by
 rcases aQ.1 hx with rfl | hx
 ·exact Lg t h hf
 ·exact Ol x hx⟩
end Go.Proofs
namespace Go.Proofs
open Go Go.c8
theorem GV {l:List ae} (h:l.length=2):∃ a b,l=[a,b]:=by
 rcases l with _ | ⟨a,_ | ⟨b,_ | ⟨c,l⟩⟩⟩<;>first | exact ⟨_,_,rfl⟩ | simp at h
theorem NJ {l:List ae} (h:l.length=3):∃ a b c,l=[a,b,c]:=by
 rcases l with _ | ⟨a,l⟩
 ·simp at h
 ·obtain ⟨b,c,rfl⟩:=GV (l:=l) (by simpa using h);exact ⟨_,_,_,rfl⟩
theorem GX {l:List ae} (h:l.length=4):∃ a b c d,l=[a,b,c,d]:=by
 rcases l with _ | ⟨a,l⟩
 ·simp at h
 ·obtain ⟨b,c,d,rfl⟩:=NJ (l:=l) (by simpa using h);exact ⟨_,_,_,_,rfl⟩
theorem NK {l:List ae} (h:l.length=5):∃ a b c d e,l=[a,b,c,d,e]:=by
 rcases l with _ | ⟨a,l⟩
 ·simp at h
 ·obtain ⟨b,c,d,e,rfl⟩:=GX (l:=l) (by simpa using h);exact ⟨_,_,_,_,_,rfl⟩
theorem Oh:∀ {ts:List Tm},(∀ t∈ts,t.fit)→Tm.fits ts
 | [],_=>trivial
 | t :: ts,h=>⟨h t List.mem_cons_self,Oh fun x hx=>h x (cB _ hx)⟩
theorem Ysh (t:Tm):cJ t.aO=true:=by rw [dc];rfl
theorem Ow:∀ (n:Nat) (cs:List ae),mw Tryz.prog n 70 cs→∃ t:Tm,cs=t.aO.cells∧t.fit:=by
 intro n
 induction n using Nat.strongRecOn with
 | _ n ih =>
 intro cs h
 obtain ⟨m,rfl,h1,h2⟩:=Kz (L:=[(3,0,1),(68,1,1)]) (N:=2) (by kernel_rfl) (by kernel_rfl) h
 obtain ⟨i,e1,hi⟩:=Ll (by kernel_rfl) (h2 (3,0,1) (by simp))
 obtain ⟨m',rfl,es,e2,_,h4⟩:=K5 (e:=70) (sz:=2) (ag:=true) (by kernel_rfl) (h2 (68,1,1) (by simp))
 obtain ⟨ts,rfl,h5⟩:=DG (f:=Tm.aO) (p:=Tm.fit) es fun x hx=>by
  obtain ⟨g1,g2⟩:=h4 x hx
  obtain ⟨t,g3,g4⟩:=ih m' (by omega) _ g2
  exact ⟨t,HI g1 (Ysh t) g3,g4⟩
 obtain ⟨a,b,rfl⟩:=GV h1
 simp at e1 e2
 subst e1 e2
 exact ⟨.mk i ts,by rw [ft];rfl,hi,Oh h5⟩
theorem Rp {a:ae} {t e:TypeId} {sz:Nat} {ag:Bool} (hs:nw Tryz.prog t=some (e,sz,ag)) (ha:iQ Tryz.prog t=false) (h:zA Tryz.prog t a):∃ m es,a = .ps sz es∧es.length≤maxLen∧∀ x∈es,cJ x=ag∧mw Tryz.prog m e x.cells:=by
 obtain ⟨h1,n,h2⟩:=h
 obtain ⟨m,_,es,h3,h4,h5⟩:=K5 hs h2
 exact ⟨m,es,J0 (h1.trans ha) h3,h4,h5⟩
theorem Yrt (n:Nat) (cs:List ae) (h:mw Tryz.prog n 79 cs):∃ s:Sy,cs=s.aO.cells∧True:=by
 obtain ⟨m,rfl,h1,h2⟩:=Kz (L:=[(9,0,1),(3,1,1),(3,2,1),(4,3,1)]) (N:=4) (by kernel_rfl) (by kernel_rfl) h
 obtain ⟨s,e1,_⟩:=Yqm (by kernel_rfl) (h2 (9,0,1) (by simp))
 obtain ⟨i,e2,_⟩:=Ll (by kernel_rfl) (h2 (3,1,1) (by simp))
 obtain ⟨j,e3,_⟩:=Ll (by kernel_rfl) (h2 (3,2,1) (by simp))
 obtain ⟨b,e4⟩:=TU (by kernel_rfl) (h2 (4,3,1) (by simp))
 obtain ⟨x1,x2,x3,x4,rfl⟩:=GX h1
 simp at e1 e2 e3 e4
 subst e1 e2 e3 e4
 exact ⟨⟨s,i,j,b⟩,rfl,trivial⟩
theorem Yk8 {a:ae} (h:zA Tryz.prog 22 a):∃ g:List Sy,a = .ps 4 (syms g):=by
 obtain ⟨m,es,rfl,_,h5⟩:=Rp (e:=79) (sz:=4) (ag:=true) (by kernel_rfl) (by kernel_rfl) h
 obtain ⟨g,rfl,_⟩:=DG (f:=Sy.aO) (p:=fun _=>True) es fun x hx=>by
  obtain ⟨g1,g2⟩:=h5 x hx
  obtain ⟨s,g3,_⟩:=Yrt m _ g2
  exact ⟨s,HI g1 rfl g3,trivial⟩
 exact ⟨g,rfl⟩
theorem Ou (n:Nat) (cs:List ae) (h:mw Tryz.prog n 74 cs):∃ l:Li,cs=l.aO.cells∧l.l.fit∧l.r.fit:=by
 obtain ⟨m,rfl,h1,h2⟩:=Kz (L:=[(4,0,1),(70,1,2),(70,3,2)]) (N:=5) (by kernel_rfl) (by kernel_rfl) h
 obtain ⟨b,e1⟩:=TU (by kernel_rfl) (h2 (4,0,1) (by simp))
 obtain ⟨l,e2,f2⟩:=Ow m _ (h2 (70,1,2) (by simp))
 obtain ⟨r,e3,f3⟩:=Ow m _ (h2 (70,3,2) (by simp))
 obtain ⟨x1,x2,x3,x4,x5,rfl⟩:=NK h1
 rw [ft] at e2 e3
 simp at e1 e2 e3
 obtain ⟨rfl,rfl⟩:=e2
 obtain ⟨rfl,rfl⟩:=e3
 subst e1
 exact ⟨⟨b,l,r⟩,rfl,f2,f3⟩
theorem Yoa {a:ae} (h:zA Tryz.prog 23 a):∃ es:List (List Li),a = .ps 1 (cX es)∧∀ c∈es,py c:=by
 obtain ⟨m,es,rfl,h4,h5⟩:=Rp (e:=24) (sz:=1) (ag:=false) (by kernel_rfl) (by kernel_rfl) h
 obtain ⟨c,rfl,hc⟩:=DG (f:=fun c=>.ps 5 (lits c)) (p:=py) es fun x hx=>by
  obtain ⟨g1,g2⟩:=h5 x hx
  obtain ⟨m',_,rC,e2,_,h6⟩:=K5 (e:=74) (sz:=5) (ag:=true) (by kernel_rfl) g2
  obtain ⟨c,rfl,hc⟩:=DG (f:=Li.aO) (p:=fun l=>l.l.fit∧l.r.fit) rC fun y hy=>by
   obtain ⟨k1,k2⟩:=h6 y hy
   obtain ⟨s,g3,g4⟩:=Ou m' _ k2
   exact ⟨s,HI k1 rfl g3,g4⟩
  exact ⟨c,J0 g1 e2,hc⟩
 exact ⟨c,rfl,hc⟩
theorem YE {a:ae} (h:zA Tryz.prog 24 a):∃ c:List Li,a = .ps 5 (lits c)∧py c∧c.length≤2600000000000:=by
 obtain ⟨h1,n,h2⟩:=h
 obtain ⟨m,_,es,h3,h4,h5⟩:=SW (e:=74) (sz:=5) (ag:=true) (by kernel_rfl) h2
 have e1:a = .ps 5 es:=J0 (h1.trans (by kernel_rfl)) h3
 subst e1
 obtain ⟨c,rfl,hc⟩:=DG (f:=Li.aO) (p:=fun l=>l.l.fit∧l.r.fit) es fun x hx=>by
  obtain ⟨g1,g2⟩:=h5 x hx
  obtain ⟨s,g3,g4⟩:=Ou m _ g2
  exact ⟨s,HI g1 rfl g3,g4⟩
 refine ⟨c,rfl,hc,?_⟩
 have hb:Tryz.prog.bytesOf 74=72:=by kernel_rfl
 have h6:=h4.2
 rw [hb,ak] at h6
 unfold reachBytes at h6
 omega
end Go.Proofs
namespace Go.Proofs
open Go Go.c8
attribute [local go_sem] Nat.reduceAdd Nat.reduceSub Nat.reduceMul Nat.reduceLeDiff Nat.reduceEqDiff Nat.reduceBEq Nat.reduceLT Nat.le_refl Int.natCast_zero Nat.sub_zero List.length_map Int.toNat_natCast Int.natCast_one Int.reduceEq Int.reduceLT Int.reduceLE Int.reduceNe Int.sub_zero Int.zero_add Int.toNat_one
theorem Xg {c:List Li}:∀ l∈c,l.l.size≤Tm.bF (cR c)∧l.r.size≤Tm.bF (cR c):=by
 induction c with
 | nil=>intro l hl;cases hl
 | cons a c ih =>
  intro l hl
  have e:Tm.bF (cR (a :: c))=a.l.size+(a.r.size+Tm.bF (cR c)):=rfl
  rw [e]
  rcases aQ.1 hl with rfl | hl
  ·omega
  ·have:=ih l hl;omega
theorem Ynw {c:List Li} (h:pw c=true):Tm.bF (cR c)≤80∧c.length≤8:=by
 unfold pw at h
 simp only [aD,decide_eq_true_eq] at h
 have:=(Rc (m:=80) (by omega) (cR c) 0 (by omega) (by omega)).2 h.1
 omega
theorem Q7 {c:List Li} (h:iG c=true):Tm.bF (cR c)≤500∧c.length≤40:=by
 unfold iG at h
 simp only [aD,decide_eq_true_eq] at h
 have:=(Re (cR c) 0 (by omega) (by omega)).2 h.2
 omega
theorem O7:∀ (es:List (List Li)) (n:Int),(ko es n).1=true→∀ c∈es,iG c=true
 | [],_,_,c,hc=>by cases hc
 | d :: es,n,h,c,hc=>by
  rw [ko] at h
  split at h
  ·rename_i h1
   rcases aQ.1 hc with rfl | hc
   ·exact h1
   ·exact O7 es _ h c hc
  ·cases h
theorem LB {es:List (List Li)} (h:oM es=true):es.length≤8∧∀ c∈es,iG c=true:=by
 unfold oM at h
 simp only [aD,decide_eq_true_eq] at h
 exact ⟨h.1,O7 es 0 h.2.1⟩
theorem SJ {c:List Li} (h:Tm.bF (cR c)≤1000):ou c:=fun i hi=>by
 have:=Xg (c:=c) _ (aE hi)
 omega
theorem Yy1 {es:List (List Li)} {c:List Li} (h1:oM es=true) (h2:pw c=true) (f1:∀ x∈es,py x) (f2:py c):sG es c:=by
 obtain ⟨a1,a2⟩:=LB h1
 refine ⟨by omega,fun x hx=>?_⟩
 rcases aQ.1 hx with rfl | hx
 ·exact ⟨SJ (by have:=(Ynw h2).1;omega),f2⟩
 ·exact ⟨SJ (by have:=(Q7 (a2 x hx)).1;omega),f1 x hx⟩
def nV (bs:List Bd) (v:Int):Tm:=((bs.find? fun b=>b.v==v).map Bd.t).getD (.mk (-1 - v) [])
mutual
def Tm.pd (bs:List Bd):Tm→Tm
 | .mk h ts=>if h<0 then nV bs (-1 - h) else .mk h (Tm.Jf bs ts)
def Tm.Jf (bs:List Bd):List Tm→List Tm
 | []=>[]
 | t :: ts=>t.pd bs :: Tm.Jf bs ts
end
theorem zH {t:Tm} (h:t.good=true) : -256≤t.head∧t.head≤1023∧t.args.length≤8∧(t.head<0→t.args=[]):=by
 obtain ⟨k,ts⟩:=t
 rw [Tm.good] at h
 simp only [aD,bT,cA,decide_eq_false_iff_not,eW] at h
 simp only [Tm.head,Tm.args]
 refine ⟨by omega,by omega,by omega,fun hn=>?_⟩
 rcases h.1.1.1.1 with h1 | h1
 ·exact absurd hn h1
 ·exact aY (by omega)
theorem Rw:∀ {ts:List Tm},Tm.fT ts=true→∀ t∈ts,t.good=true
 | x :: ts,h,t,ht=>by
  rw [Tm.fT,aD] at h
  rcases aQ.1 ht with rfl | ht
  ·exact h.1
  ·exact Rw h.2 t ht
theorem w8 {t:Tm} (h:t.good=true):∀ u∈t.args,u.good=true:=by
 obtain ⟨k,ts⟩:=t
 rw [Tm.good,aD] at h
 exact Rw h.2
mutual
def jX:Tm→Tm→List Bd→List Bd×Bool
 | .mk h ts,u,s=>if h<0 then (match s.find? (fun b=>b.v == -1 - h) with | some b=>(s,decide (b.t=u)) | none=>(s++[⟨-1 - h,u⟩],true))
  else if h≠u.head∨ts.length≠u.args.length then (s,false) else gS ts u.args s
def gS:List Tm→List Tm→List Bd→List Bd×Bool
 | [],_,s=>(s,true)
 | _ :: _,[],s=>(s,true)
 | t :: ts,u :: us,s=>if (jX t u s).2=true then gS ts us (jX t u s).1 else (s,false)
end
@[go_sem] theorem Xg4 (l:List Bd):eI ⟨3,true,40,[.int .i64 0, .int .i64 0, .aU], .struct⟩ (nP l)=True:=eq_true (by
 refine ⟨fun x hx=>?_,by decide,by decide,rfl⟩
 obtain ⟨t,_,rfl⟩:=cn.1 hx
 exact ⟨rfl,rfl⟩)
mutual
theorem To {P:Tm→Prop} (hP:∀ t,P t→∀ u∈t.args,P u):∀ (t u:Tm) (s:List Bd),P u→(∀ b∈s,P b.t)→∀ b∈(jX t u s).1,P b.t
 | .mk h ts,u,s,hu,hs=>by
  rw [jX]
  split
  ·split
   ·exact hs
   ·intro b hb
    rcases aW.1 hb with hb | hb
    ·exact hs b hb
    ·rw [aN.1 hb];exact hu
  ·split
   ·exact hs
   ·exact SA hP ts u.args s (hP u hu) hs
theorem SA {P:Tm→Prop} (hP:∀ t,P t→∀ u∈t.args,P u):∀ (ts us:List Tm) (s:List Bd),(∀ u∈us,P u)→(∀ b∈s,P b.t)→∀ b∈(gS ts us s).1,P b.t
 | [],_,s,_,hs=>by rw [gS];exact hs
 | _ :: _,[],s,_,hs=>by rw [gS];exact hs
 | t :: ts,u :: us,s,hu,hs=>by
  rw [gS]
  have h1:=To hP t u s (hu u (by simp)) hs
  split
  ·exact SA hP ts us _ (fun x hx=>hu x (by simp [hx])) h1
  ·exact hs
end
def sO (l:List Tm):Bool:=l.all fun t=>decide (t.check=0)
def wH (p t:List Tm):List Bd×Bool:=if (gS p t []).2=true then gS p t [] else ([],false)
def Dz (s:List Bd) (v:Nat):Option Bd:=if (nV s v).head = -1 - (v:Int) then none else some ⟨v,nV s v⟩
def BS (s:List Bd) (n:Nat):List Bd:=(List.range n).filterMap (Dz s)
def ur (s:List Bd):List Bd:=BS s 256
def gL (p t:List Tm):List Bd×Bool×Int :=
 if sO p=false∨sO t=false∨p.length≠t.length then ([],false,1) else if (wH p t).2=false then ([],false,0) else (ur (wH p t).1,true,0)
theorem Q0 {t u:Tm} (h:u∈t.args):u.depth<t.depth:=by
 obtain ⟨k,ts⟩:=t
 have key:∀ ts:List Tm,u∈ts→u.depth≤Tm.iy ts:=by
  intro ts
  induction ts with
  | nil=>intro h;cases h
  | cons a ts ih =>
   intro h
   rw [Tm.iy]
   rcases aQ.1 h with rfl | h
   ·omega
   ·have:=ih h;omega
 have:=key ts h
 rw [Tm.depth];omega
theorem QR {g:List Sy}:∀ {ts:List Tm},Tm.gN g ts=true→∀ u∈ts,u.known g=true
 | a :: ts,h,u,hu=>by
  rw [Tm.gN,aD] at h
  rcases aQ.1 hu with rfl | hu
  ·exact h.1
  ·exact QR h.2 u hu
theorem Rk {g:List Sy}:∀ {ts:List Tm},Tm.jn g ts=true→∀ u∈ts,u.cx g=false∧u.jm g=true
 | a :: ts,h,u,hu=>by
  rw [Tm.jn,aD,aD,bT] at h
  rcases aQ.1 hu with rfl | hu
  ·exact h.1
  ·exact Rk h.2 u hu
theorem Yrr {g:List Sy} {t:Tm} (hs:fV g=true) (h1:t.check=0) (h2:t.known g=true) (h3:t.jm g=true):t.term g=0:=by
 unfold Tm.term
 rw [if_neg (by rw [hs];simp),if_neg (by simp [h1]),if_neg (by rw [h2];simp),if_neg (by rw [h3];simp)]
theorem TL {t:Tm} (h1:t.size≤400) (h2:t.depth≤40) (h3:t.good=true):t.check=0:=by
 unfold Tm.check
 rw [if_neg (by omega),if_neg (by omega),if_pos h3]
theorem X1 {g:List Sy} {t:Tm} (h:t.term g=0):∀ u∈t.args,u.term g=0∧u.cx g=false:=fun u hu=>by
 have hs:=JK h
 obtain ⟨h1,h2,h3⟩:=oH h
 obtain ⟨c1,c2,c3⟩:=sm h1
 have z1:=sT hu
 have z2:=ov t
 have z3:=Q0 hu
 have z4:=w8 c3 u hu
 obtain ⟨k,ts⟩:=t
 have Am:Tm.gN g ts=true:=by
  rw [Tm.known] at h2
  simp only [bY,aD,decide_eq_true_eq] at h2
  rcases h2 with h2 | h2
  ·have:=(zH c3).2.2.2 h2
   rw [this] at hu;cases hu
  ·exact h2.2
 obtain ⟨y1,y2⟩:=Rk (by rwa [Tm.jm] at h3) u hu
 exact ⟨Yrr hs (TL (by omega) (by omega) z4) (QR Am u hu) y2,y1⟩
theorem KZ {g:List Sy}:∀ t,jQ g t→∀ u∈t.args,jQ g u:=fun t h u hu=>⟨(X1 h.1 u hu).1,wA (xg h.2) u hu⟩
mutual
def Tm.cv (v:Int):Tm→Nat
 | .mk h ts=>(if h = -1 - v then 1 else 0)+Tm.Bj v ts
def Tm.Bj (v:Int):List Tm→Nat
 | []=>0
 | t :: ts=>t.cv v+Tm.Bj v ts
end
mutual
def Tm.mn (g:List Sy):Tm→Int
 | .mk h ts=>if h<0 then 1 else Tm.pL g ts (nq g h)
def Tm.pL (g:List Sy):List Tm→Int→Int
 | [],n=>n
 | t :: ts,n=>Tm.pL g ts (n+t.mn g)
end
theorem KO (g:List Sy):∀ (ts:List Tm) (n m:Int),Tm.pL g ts (n+m)=Tm.pL g ts n+m
 | [],n,m=>rfl
 | t :: ts,n,m=>by rw [Tm.pL,Tm.pL,show n+m+t.mn g=n+t.mn g+m by omega,KO g ts]
def gw (a b:Tm):Bool:=b.vars.all fun v=>decide (b.cv v≤a.cv v)
mutual
def Tm.gr (g:List Sy):Tm→Tm→Bool
 | .mk h ts,u=>if gw (.mk h ts) u=false then false else if (Tm.mk h ts).mn g≠u.mn g then decide (u.mn g<(Tm.mk h ts).mn g) else
  if h<0∨u.head<0 then false else if h≠u.head then decide (u.head<h) else Tm.rD g ts u.args
def Tm.rD (g:List Sy):List Tm→List Tm→Bool
 | [],_=>false
 | _ :: _,[]=>false
 | t :: ts,u :: us=>if t=u then Tm.rD g ts us else t.gr g u
end
theorem Yuj {g:List Sy} {t u:Tm} (ht:jQ g t) (hu:jQ g u) (h0 : 0≤t.head) (he:t.head=u.head):t.args.length=u.args.length:=by
 have h1:=Ir (Iy ht).2.2.1 h0
 have h2:=Ir (Iy hu).2.2.1 (by omega)
 rw [he] at h1
 omega
def fk (p:Nat→Bool):Nat→Nat→Option Nat
 | 0,_=>none
 | n+1,k=>if p k then some k else fk p n (k+1)
def Jh {α:Type} (same : α→α→Bool) (b:List α) (us:List Bool) (x : α) (k:Nat):Bool:=!us.getD k false&&(match b[k]? with | some y=>same x y | none=>false)
theorem Ywh {α:Type} {same : α→α→Bool} {b:List α} {us:List Bool} {x : α} {k:Nat} (h:k<b.length):Jh same b us x k=(!us.getD k false&&same x b[k]):=by simp [Jh,h]
def tI (x y:Tm):Bool:=decide (x=y)
def xu {α:Type} (same : α→α→Bool) (b:List α):List α→List Bool→List α
 | [],_=>[]
 | x :: a,us=>match fk (Jh same b us x) b.length 0 with
  | none=>x :: xu same b a us
  | some k=>xu same b a (us.set k true)
def f_ (l:List Bool):List ae:=l.map .bool
theorem B6 (l:List Bool):(f_ l).length=l.length:=by simp [f_]
theorem rB {n:Nat} (l:List Bool):bx n (f_ l):=uB fun _ _=>trivial
theorem HS {l:List Bool} {i:Nat} (h:i<l.length):(f_ l).getD i .undef = .bool (l.getD i false):=by simp [f_,List.getD,h]
theorem W2 (n:Nat):List.replicate n (ae.bool false)=f_ (List.replicate n false):=by simp [f_]
def pI {α:Type} (gt : α→α→Bool) (a b:List α):Bool:=(b.all fun y=>a.any fun x=>gt x y)&&decide (0<a.length)
theorem Yjy {α:Type} (gt : α→α→Bool) (a b:List α) (y : α):pI gt a (y :: b)=((a.any fun x=>gt x y)&&pI gt a b):=by simp [pI,Bool.and_assoc]
def vB {α:Type} (same gt : α→α→Bool) (a b:List α):Int :=
 if (xu same b a (List.replicate b.length false)).length+(xu same a b (List.replicate a.length false)).length=0 then 0 else
 if pI gt (xu same b a (List.replicate b.length false)) (xu same a b (List.replicate a.length false))=true then 1 else
 if pI gt (xu same a b (List.replicate a.length false)) (xu same b a (List.replicate b.length false))=true then -1 else 2
def AL (g:List Sy) (a b:Li):Int:=vB tI (Tm.gr g) (lI a) (lI b)
def BO (g:List Sy) (l:Li):Prop:=jQ g l.l∧jQ g l.r
theorem N_ {g:List Sy} {l:Li} (h:BO g l):∀ x∈lI l,jQ g x:=fun x hx=>by
 rcases KG hx with rfl | rfl
 ·exact h.1
 ·exact h.2
def uq (g:List Sy) (c d:List Li):Int:=vB eS (fun x y=>decide (AL g x y=1)) c d
def gI (l:Li) (n:Int):Tm×Tm:=if n=0 then (l.l,l.r) else (l.r,l.l)
theorem Yqd {P:Tm→Prop} {s:List Bd} (h:∀ b∈s,P b.t) {v:Int} (hv:P (.mk (-1 - v) [])):P (nV s v):=by
 unfold nV
 cases hf:s.find? (fun b=>b.v==v) with
 | some b=>exact h b (bI hf)
 | none=>exact hv
def pn (x y:Tm):Li:=⟨false,x,y⟩
def wu (g:List Sy) (e:Li) (n:Int) (u:Tm) (c:List Li):Tm×Bool :=
 if (gI e n).1.head=0∨(gI e n).1.cx g≠u.cx g∨within (gI e n).2 (gI e n).1=false then (u,false) else
 if (gL [(gI e n).1] [u]).2.2≠0∨(gL [(gI e n).1] [u]).2.1=false then (u,false) else
 if bd g [pn ((gI e n).1.pd (gL [(gI e n).1] [u]).1) ((gI e n).2.pd (gL [(gI e n).1] [u]).1)]≠0 ∧
  bd g [pn ((gI e n).2.pd (gL [(gI e n).1] [u]).1) ((gI e n).1.pd (gL [(gI e n).1] [u]).1)]≠0 then (u,false) else
 if ((gI e n).1.pd (gL [(gI e n).1] [u]).1).gr g ((gI e n).2.pd (gL [(gI e n).1] [u]).1)=false ∨
  uq g [pn ((gI e n).1.pd (gL [(gI e n).1] [u]).1) ((gI e n).2.pd (gL [(gI e n).1] [u]).1)] c≠-1 then (u,false) else
 ((gI e n).2.pd (gL [(gI e n).1] [u]).1,true)
theorem Jw {g:List Sy} {x y:Tm} (h:bd g [pn x y]=0):x.term g=0∧y.term g=0:=by
 have h1:=(yV h).2.2 (pn x y) (by simp)
 exact A2 h1
theorem Zx {g:List Sy} {c:List Li} (hc:j4 g c):∀ s∈cK c 0,jQ g s.t:=fun s hs=>by
 obtain ⟨j,hj,h1,h2,h3⟩:=DK c 0 s hs
 exact Fu KZ _ _ _ (Ff hc (aE hj) s.rt) h2
end Go.Proofs
