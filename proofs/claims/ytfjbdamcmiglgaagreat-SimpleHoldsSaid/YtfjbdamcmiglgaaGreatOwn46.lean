/- Part 46 of my own framework and of the walks of functions: Ss, Sr, St, AcsZa, Su, Sv, Sw, Sx, Sy, Ua, Ub, Uc, Ud, Ue, Uf, Ug, Uh, Ui, Uj, Uk, Ul, Um, Un, Uo, Up, Uq, Ur, Us, Ut, Uu, Uv, Va, Vb, Vc, Vd, Ve, Wa, Wb, Wc, Wd, We, Wf, Wg, Wh, Wi, Wj, Wk, Wl, Wm, Wn, Wo, Wp, Wq. -/
import Derived.Test.YtfjbdamcmiglgaaGreatOwn45
import Derived.Shelf.Sort.Plain
import Derived.Shelf.Slices.In.SortNone
import Derived.Test.YtfjbdamcmiglgaaGreatProg
abbrev fV:=@List.find?_some
abbrev qB:=@List.mem_filter
abbrev od:=@List.mem_or_eq_of_mem_set
abbrev j8:=@List.mergeSort_perm
set_option linter.unusedVariables false
set_option linter.unusedSectionVars false
set_option linter.unusedSimpArgs false
namespace Go.Proofs
open Go.Shelf
def Tryz.lays189_ren:Go.Shelf.Ren:=⟨fun | 189=>225 | 125=>238 | 257=>237 | 128=>256 | 129=>257 | 294=>247 | 295=>248 | 296=>249 | 297=>250 | 298=>251 | 299=>252 | 216=>253 | 300=>254 | 301=>255 | 328=>260 | 329=>261 | 330=>262 | 331=>263 | 332=>264 | 215=>265 | 343=>266 | n=>n,fun | 28=>26 | 3=>3 | 46=>265 | 0=>0 | 51=>279 | 53=>281 | 4=>4 | 183=>272 | 182=>271 | 131=>135 | 5=>5 | 9=>9 | 218=>282 | 222=>286 | 228=>288 | 229=>289 | n=>n,fun | n=>n⟩
theorem Tryz.lays189:Go.Proofs.Lays.n189 Tryz.prog Tryz.lays189_ren:={
 mixed:=by kernel_rfl
 f125:=Tryz.func238.trans (congrArg some (by kernel_rfl))
 f128:=Tryz.func256.trans (congrArg some (by kernel_rfl))
 f129:=Tryz.func257.trans (congrArg some (by kernel_rfl))
 f189:=Tryz.func225.trans (congrArg some (by kernel_rfl))
 f215:=Tryz.func265.trans (congrArg some (by kernel_rfl))
 f216:=Tryz.func253.trans (congrArg some (by kernel_rfl))
 f257:=Tryz.func237.trans (congrArg some (by kernel_rfl))
 f294:=Tryz.func247.trans (congrArg some (by kernel_rfl))
 f295:=Tryz.func248.trans (congrArg some (by kernel_rfl))
 f296:=Tryz.func249.trans (congrArg some (by kernel_rfl))
 f297:=Tryz.func250.trans (congrArg some (by kernel_rfl))
 f298:=Tryz.func251.trans (congrArg some (by kernel_rfl))
 f299:=Tryz.func252.trans (congrArg some (by kernel_rfl))
 f300:=Tryz.func254.trans (congrArg some (by kernel_rfl))
 f301:=Tryz.func255.trans (congrArg some (by kernel_rfl))
 f328:=Tryz.func260.trans (congrArg some (by kernel_rfl))
 f329:=Tryz.func261.trans (congrArg some (by kernel_rfl))
 f330:=Tryz.func262.trans (congrArg some (by kernel_rfl))
 f331:=Tryz.func263.trans (congrArg some (by kernel_rfl))
 f332:=Tryz.func264.trans (congrArg some (by kernel_rfl))
 f343:=Tryz.func266.trans (congrArg some (by kernel_rfl))
 t0:=Tryz.underlying0
 a0:=Tryz.isAgg0
 z0:=Tryz.sizeOf0
 v0:=Tryz.zeroValue0
 t3:=Tryz.underlying3
 a3:=Tryz.isAgg3
 z3:=Tryz.sizeOf3
 v3:=Tryz.zeroValue3
 t4:=Tryz.underlying4
 a4:=Tryz.isAgg4
 z4:=Tryz.sizeOf4
 v4:=Tryz.zeroValue4
 t5:=Tryz.underlying5
 a5:=Tryz.isAgg5
 z5:=Tryz.sizeOf5
 v5:=Tryz.zeroValue5
 t9:=Tryz.underlying9
 a9:=Tryz.isAgg9
 z9:=Tryz.sizeOf9
 v9:=Tryz.zeroValue9
 t28:=Tryz.underlying26
 a28:=Tryz.isAgg26
 z28:=Tryz.sizeOf26
 v28:=Tryz.zeroValue26
 t46:=Tryz.underlying265
 a46:=Tryz.isAgg265
 z46:=Tryz.sizeOf265
 v46:=Tryz.zeroValue265
 t51:=Tryz.underlying279
 a51:=Tryz.isAgg279
 z51:=Tryz.sizeOf279
 v51:=Tryz.zeroValue279
 t53:=Tryz.underlying281
 a53:=Tryz.isAgg281
 z53:=Tryz.sizeOf281
 v53:=Tryz.zeroValue281
 t131:=Tryz.underlying135
 a131:=Tryz.isAgg135
 z131:=Tryz.sizeOf135
 v131:=Tryz.zeroValue135
 t182:=Tryz.underlying271
 a182:=Tryz.isAgg271
 z182:=Tryz.sizeOf271
 v182:=Tryz.zeroValue271
 t183:=Tryz.underlying272
 a183:=Tryz.isAgg272
 z183:=Tryz.sizeOf272
 v183:=Tryz.zeroValue272
 t218:=Tryz.underlying282
 a218:=Tryz.isAgg282
 z218:=Tryz.sizeOf282
 v218:=Tryz.zeroValue282
 t222:=Tryz.underlying286
 a222:=Tryz.isAgg286
 z222:=Tryz.sizeOf286
 v222:=Tryz.zeroValue286
 t228:=Tryz.underlying288
 a228:=Tryz.isAgg288
 z228:=Tryz.sizeOf288
 v228:=Tryz.zeroValue288
 t229:=Tryz.underlying289
 a229:=Tryz.isAgg289
 z229:=Tryz.sizeOf289
 v229:=Tryz.zeroValue289 }
open Go.Sort Go.RowKit in
theorem Tryz.slices_Sort_int (cw off cap:Nat) (zs:List Int) (w:World) (hH:Holds (Value.int .i64) w cw off zs.toArray) (y9:cw<w.heap.size) (fJ:zs.length<4611686018427387904) :
  Calls Tryz.prog 225 #[.slice (some ⟨cw,off,none⟩) zs.length cap] w fun e w' =>
   e = .returned (.tuple #[])∧∃ n os,w'=grow (putRow (Value.int .i64) (Sort.ahead w n) cw off (zs.mergeSort fun x y=>decide (x≤y)).toArray) os:=Any.slices_Sort_int Tryz.lays189 cw off cap zs w hH y9 fJ
open Go.RowKit Go.Sort in
theorem Tryz.slices_Sort_int_none (p:Option Addr) (cap:Nat) (w:World) :
  Calls Tryz.prog 225 #[.slice p 0 cap] w fun e w'=>e = .returned (.tuple #[])∧w'=w:=Any.slices_Sort_int_none Tryz.lays189 p cap w
end Go.Proofs
namespace Go.Proofs
open Go Go.dm
attribute [local go_sem] Nat.reduceAdd Nat.reduceSub Nat.reduceMul Nat.reduceLeDiff Nat.reduceEqDiff Nat.reduceBEq Nat.reduceLT Nat.le_refl Int.natCast_zero Nat.sub_zero List.length_map Int.toNat_natCast Int.natCast_one Int.reduceEq Int.reduceLT Int.reduceLE Int.reduceNe Int.sub_zero Int.zero_add Int.toNat_one
theorem ZD {m n b:Nat} (h:b<m∨n≤b):aw m n (.it b):=fun ρ er=>by simp only [ek,er b h]
theorem Ytw {m n:Nat} {ks vs:List ah} {seen:List Nat} (hk:bF 0 ks) (hv:bF 0 vs):Ka m n (some (.lL ks vs seen)):=fun ρ er y hy=>by
 cases hy;simp only [ef,cK hk,cK hv]
theorem VM {σ:ai} {x:Option bO} {n:Nat} (h : σ.length=n):bP (σ++[x]) n=x:=by subst h;simp [bP]
theorem Ye2 {σ:ai} {x:Option bO} {B:bO} {n:Nat} (h : σ.length=n):cr (σ++[x]) n B = σ++[some B]:=by subst h;simp [cr]
theorem JS:∀ (σ τ:ai),iP σ (σ++τ)
 | [],_=>trivial
 | a :: σ,τ=>⟨.inl rfl,JS σ τ⟩
theorem Yod (kv:List Int) (vs:List ah) (mQ:bF 0 vs) (n0:Nat) (kL:ai) (S:List Nat→ai) (p:Nat) (y:ah) (h0 : kL.length=n0) (y4 : kL++[none]=S []) (hlen:∀ i,(S i).length=n0+1) (eJ:∀ i,bP (S i) p=some (.var [.pm (ints kv) vs])) (hp:p<n0)
  (hs:∀ i,bD (n0+1) (S i)) (ow:bD n0 kL) (oB:y.low n0)
  (hy:∀ (seen:List Nat) (j:Nat) (h:j<kv.length),j ∉ seen→seen.Nodup→(∀ i∈seen,i<kv.length)→aq Tryz.prog y [.int .i64 kv[j]] (S seen) (fun r σ'=>r = .bool true∧n0+1≤σ'.length∧bD σ'.length σ'∧∃ π:Nat→Nat,(∀ b,b<n0→π b=b)∧(∀ b b',b<n0+1→b'<n0+1→π b = π b'→b=b')∧gW π σ' 0 (S (seen++[j])))) :
  aq Tryz.prog (.fn 226 [] [.ptr p 0]) [y] kL (fun _ σ'=>∃ seen:List Nat,seen.Nodup∧(∀ i,i∈seen↔i<kv.length)∧σ'=S seen):=by
 subst h0;refine aq.mI (rs:=[]) (m:=12) Tryz.func226 rfl rfl rfl rfl rfl ?_;refine aG.pad 1 (ae _) (by simp [go_sem,oB,hp]) ow ?_;rw [show List.replicate 1 (none:Option bO)=[none] from rfl,y4]
 refine aG.go 1000 ?_;simp only [go_sem,eJ,ae];rw [Cq,hlen];have HX:∀ seen,bD (kL.length+2) [some (bO.lL (ints kv) vs seen)]:=fun seen=>⟨⟨dq _,iO (au _) mQ⟩,trivial⟩;have qZ:∀ seen,bD (kL.length+2) (S seen++[some (bO.lL (ints kv) vs seen)]):=fun seen=>pS (oe (by omega) (hs seen)) (HX seen);refine aG.cO (ι:={seen:List Nat // seen.Nodup∧∀ i∈seen,i<kv.length}) 1000 (fun q=>fe 14 [(0,y),(5, .it (kL.length+1))]) (fun q=>S q.1++[some (.lL (ints kv) vs q.1)]) (fun q=>uA kv.length q.1) ⟨[],iF,fun i hi=>by cases hi⟩ ?_ (fun q=>by rw [az,hlen];simp only;omega) ?_
 ·simp only [go_sem,az,hlen,ax,aS,qZ,nG (m:=kL.length+1+1) (b9 _ 2) oB];exact ⟨f_ _,by omega⟩
 ·rintro ⟨seen,ph,bA⟩;simp only [go_sem];have hgm:bP (S seen++[some (bO.lL (ints kv) vs seen)]) (kL.length+1)=some (.lL (ints kv) vs seen):=VM (hlen seen);refine ⟨kL.length+1,ints kv,vs,seen,rfl,hgm,fun j hj hn=>?_,fun fq=>?_⟩
  ·rw [iZ] at hj;rw [Ye2 (hlen seen),s0 hj];have hz:ah.low 0 (vs.getD j .undef):=jz mQ j;obtain ⟨z,CU⟩:∃ z,vs.getD j .undef=z:=⟨_,rfl⟩;rw [CU] at hz ⊢;have Ox:aw kL.length (kL.length+1) (.dT [.bool true, .int .i64 kv[j],z]):=Du (nG (au _) (show ah.low 0 _ from ⟨trivial,trivial,hz,trivial⟩))
   have Oy:aw kL.length (kL.length+1) (.dT [.int .i64 kv[j],z]):=Du (nG (au _) (show ah.low 0 _ from ⟨trivial,hz,trivial⟩))
   have Pk:(seen++[j]).Nodup:=by
    rw [fU];exact ⟨ph,by simp,fun a ha b hb=>by rw [aL.1 hb];exact fun e=>hn (e ▸ ha)⟩
   have aU:∀ i∈seen++[j],i<kv.length:=fun i hi=>by
    rcases aY.1 hi with hi | hi
    ·exact bA i hi
    ·rw [aL.1 hi];exact hj
   have OX:bP (S seen++[some (bO.lL (ints kv) vs (seen++[j]))]) (kL.length+1)=some (.lL (ints kv) vs (seen++[j])):=VM (hlen seen);refine aG.go 1000 ?_;simp only [go_sem,OX,s0 hj,CU];refine aG.rS (σ:=S seen) (τ:=[some (bO.lL (ints kv) vs (seen++[j]))]) (.bool true) trivial (by rw [hlen];exact ep _) ?_ ?_ ?_ ?_ ?_ ?_ ?_ ?_
   ·rw [hlen];exact nG (ep _) oB
   ·simp [go_sem]
   ·rw [hlen];exact hs seen
   ·rw [hlen];have hit:=ZD (m:=kL.length) (n:=kL.length+1) (b:=kL.length+1) (.inr (ae _));simp [go_sem,EZ,E7,Du,oB,hit,Ox,Oy]
   ·rw [TV,Vh];exact ⟨Ytw (dq _) mQ,trivial⟩
   ·rw [hlen];have oP:=nG (m:=kL.length+1+1) (b9 _ 2) oB;have hvg:=nG (au (kL.length+1+1)) hz;simp [go_sem,oP,hvg]
   ·rw [hlen];exact HX _
   refine (hy seen j hj hn ph bA).mono ?_;rintro r σ' ⟨k1,k2,k3,π,k4,k5,k6⟩;rw [hlen];refine ⟨k1,k2,k3,π,S (seen++[j]),hlen _,k4,k5,k6,hs _,?_⟩;refine aG.go 1000 ?_;simp only [go_sem];refine ⟨⟨seen++[j],Pk,aU⟩,?_,VF hj hn⟩;simp only [go_sem,az,hlen,ax,aS,qZ,nG (m:=kL.length+1+1) (b9 _ 2) oB];exact ⟨f_ _,by omega⟩
  ·refine aG.go 1000 ?_;simp only [go_sem];refine aG.go 1000 ?_;simp only [go_sem];rw [gC];exact ⟨S seen,JS _ _,by rw [hlen];exact ep _,by rw [hlen];exact hs _,trivial,seen,ph,fun i=>⟨bA i,fun h=>fq i (by rw [iZ];exact h)⟩,rfl⟩
def nR (kv:List Int) (seen:List Nat):List Int:=seen.map fun j=>kv.getD j 0
theorem Yj9 {kv:List Int} {seen:List Nat} {j:Nat} (h:j<kv.length):nR kv (seen++[j])=nR kv seen++[kv[j]]:=by simp [nR,List.getD,h]
theorem Ymp (kv:List Int) (seen:List Nat):(nR kv seen).length=seen.length:=by simp [nR]
theorem Zpk (kv:List Int) (vs:List ah) (mQ:bF 0 vs) (hl:kv.length<100000000) :
  aq Tryz.prog (.fn 236 [] []) [.aW, .fn 226 [] [.ptr 0 0]] [some (.var [.pm (ints kv) vs])]
   (fun r σ'=>∃ seen:List Nat,seen.Nodup∧(∀ i,i∈seen↔i<kv.length)∧r=jk 3 1 (ints (nR kv seen))∧σ'=[some (.var [.pm (ints kv) vs]),none,none,fx (ints (nR kv seen))]):=by
 refine aq.begin (rs:=[.tmp 4]) (m:=11) 1000 Tryz.func236 rfl rfl rfl rfl rfl ?_;simp only [go_sem];refine aG.rangeFunc (fe 13 [(2, .ptr 1 0)]) ?_ ?_ (fun ρ ht wH lH rZ=>?_)
 ·simp only [go_sem]
 ·exact fun b hb=>by cases hb
 simp only [go_sem];have jJ:bF 3 ρ.tm:=by rw [ht];simp [go_sem,Bb,Bg]
 have gx:∀ l:List Int,bD 4 [some (.var [.pm (ints kv) vs]),some (.var [jk 3 1 (ints l)]),some (.loop (ρ.at .ready)),fx (ints l)] :=
  fun l=>⟨⟨⟨dq _,iO (au _) mQ⟩,trivial⟩,⟨Bh (by decide) 1 _,trivial⟩,iO (by decide) jJ,Ag _ (dq _),trivial⟩
 refine (Yod kv vs mQ 3 _ (fun seen=>[some (.var [.pm (ints kv) vs]),some (.var [jk 3 1 (ints (nR kv seen))]),some (.loop (ρ.at .ready)),fx (ints (nR kv seen))]) 0 (.lN 2) rfl rfl (fun _=>rfl) (fun _=>rfl) (by decide) (fun k=>gx _) ?_ (cN 2) (fun seen j hj hn ph bA=>?_)).mono ?_
 ·exact ⟨⟨⟨dq _,iO (au _) mQ⟩,trivial⟩,⟨trivial,trivial⟩,jJ,trivial⟩
 ·have zr:(nR kv seen).length≤kv.length:=by
   rw [Ymp];have h1:seen.length≤(List.range kv.length).length:=List.Nodup.length_le_of_subset ph fun i hi=>cj.2 (bA i hi)
   rwa [List.length_range] at h1
  rw [Yj9 hj];generalize kv[j]=v at *
  generalize nR kv seen=L at *
  have xh:∀ b,b<3→pi [(3,5),(5,3)] b=b:=by decide
  refine aq.move [(3,5),(5,3)] (S':=[some (.var [.pm (ints kv) vs]),some (.var [.os 5 0 (L.length+1) 1]),some (.loop (ρ.at .ready)),none,none,some (.row (ints L++[.int .i64 v]) 0)]) ?_ ?_ rfl ?_ ?_
  ·exact b9 4 2
  ·exact ⟨⟨⟨dq _,iO (au _) mQ⟩,trivial⟩,⟨cN 5,trivial⟩,iO (b9 3 3) jJ,trivial,trivial,tA (dq _) ⟨trivial,trivial⟩,trivial⟩
  ·have uJ:=Bf (pi [(3,5),(5,3)]) 3 xh (.loop (ρ.at .ready)) jJ;simp only [Cp,Fq,Fg,I7,IZ,Mg,uJ];simp [go_sem,cK mQ,cK (dq _),cK (tA (dq L) (show bF 0 [ah.int .i64 v] from ⟨trivial,trivial⟩)),iZ]
  refine aq.l9 1000 ht wH lH rZ rfl rfl ?_;simp only [go_sem,eW,aL,forall_eq,a_,vX,iZ];refine ⟨by omega,?_⟩;rw [uV];exact ⟨rfl,[some (.var [.pm (ints kv) vs]),some (.var [.os 5 0 (L.length+1) 1]),some (.loop (ρ.at .ready)),none,none,some (.row (ints L++[.int .i64 v]) 0)],by simp [go_sem],b9 4 2,⟨⟨⟨dq _,iO (au _) mQ⟩,trivial⟩,⟨cN 5,trivial⟩,iO (b9 3 3) jJ,trivial,trivial,tA (dq _) (show bF 6 [ah.int .i64 v] from ⟨trivial,trivial⟩),trivial⟩,rfl,rfl⟩
 rintro r' jq ⟨seen,ph,fq,rfl⟩;rw [Dv];refine ⟨.ready,rfl,?_⟩;rw [Fj];refine aG.go 1000 ?_;simp only [go_sem];rw [gC];exact ⟨[some (.var [.pm (ints kv) vs]),none,none,fx (ints (nR kv seen))],by simp [go_sem],by simp,⟨⟨⟨dq _,iO (au _) mQ⟩,trivial⟩,trivial,trivial,Ag _ (dq _),trivial⟩,Bh (show 3<4 by decide) 1 _,seen,ph,fq,rfl,rfl⟩
theorem Zv1 (kv:List Int) (vs:List ah) (mQ:bF 0 vs) (hl:kv.length<100000000) :
  aq Tryz.prog (.fn 224 [] []) [.fn 226 [] [.ptr 0 0]] [some (.var [.pm (ints kv) vs])]
   (fun r σ'=>∃ seen:List Nat,seen.Nodup∧(∀ i,i∈seen↔i<kv.length)∧r=jk 3 1 (ints (nR kv seen))∧σ'=[some (.var [.pm (ints kv) vs]),none,none,fx (ints (nR kv seen))]):=by
 refine aq.begin (rs:=[.tmp 2]) (m:=4) 1000 Tryz.func224 rfl rfl rfl rfl rfl ?_;simp only [go_sem];refine (Zpk kv vs mQ hl).mono ?_;rintro r σ' ⟨seen,ph,fq,rfl,rfl⟩;refine aG.go 1000 ?_;simp only [go_sem];rw [gC];exact ⟨[some (.var [.pm (ints kv) vs]),none,none,fx (ints (nR kv seen))],by simp [go_sem],by simp,⟨⟨⟨dq _,iO (au _) mQ⟩,trivial⟩,trivial,trivial,Ag _ (dq _),trivial⟩,Bh (show 3<4 by decide) 1 _,seen,ph,fq,rfl,rfl⟩
def gO (l:List Int):List Int:=l.mergeSort fun x y=>decide (x≤y)
theorem Fb (l:List Int):(gO l).length=l.length:=List.length_mergeSort l
theorem Z_ {a b:List Int} (h:a.Perm b):gO a=gO b:=by
 have ht:∀ x y z:Int,decide (x≤y)=true→decide (y≤z)=true→decide (x≤z)=true:=fun x y z h1 h2=>by simp at *;omega
 have hc:∀ x y:Int,(decide (x≤y)||decide (y≤x))=true:=fun x y=>by simp;omega
 refine List.Perm.eq_of_pairwise (le:=fun x y=>decide (x≤y)=true) (fun x y _ _ h1 h2=>by simp at h1 h2;omega) (List.pairwise_mergeSort ht hc a) (List.pairwise_mergeSort ht hc b) ?_;exact (j8 a _).trans (h.trans (j8 b _).symm)
theorem Yed {kv:List Int} {seen:List Nat} (ph:seen.Nodup) (fq:∀ i,i∈seen↔i<kv.length):(nR kv seen).Perm kv:=by
 have h1:seen.Perm (List.range kv.length):=(List.perm_ext_iff_of_nodup ph List.nodup_range).2 fun i=>by rw [fq,cj]
 have h2:=h1.map fun j=>kv.getD j 0;have h3:(List.range kv.length).map (fun j=>kv.getD j 0)=kv:=by
  apply List.ext_getElem (by simp);intro i h4 h5;simp [List.getD,h5]
 rw [h3] at h2;exact h2
theorem Yem {b sz:Nat} {l l':List ah} (h:l.length=l'.length):jk b sz l=jk b sz l':=by
 cases l with
 | nil=>cases l' with
  | nil=>rfl
  | cons x l'=>simp at h
 | cons y l=>cases l' with
  | nil=>simp at h
  | cons x l'=>simp only [Gx];rw [show l.length=l'.length by simpa using h]
theorem Z5 (kv:List Int) (vs:List ah) (mQ:bF 0 vs) (hl:kv.length<100000000) :
  aq Tryz.prog (.fn 209 [] []) [.fn 226 [] [.ptr 0 0]] [some (.var [.pm (ints kv) vs])]
   (fun r σ'=>r=jk 3 1 (ints (gO kv))∧σ'=[some (.var [.pm (ints kv) vs]),none,none,fx (ints (gO kv))]):=by
 refine aq.begin (rs:=[.tmp 2]) (m:=8) 1000 Tryz.func209 rfl rfl rfl rfl rfl ?_;simp only [go_sem];refine (Zv1 kv vs mQ hl).mono ?_;rintro r σ' ⟨seen,ph,fq,rfl,rfl⟩;have FQ:=Yed ph fq;rw [← Z_ FQ];have Pb:=FQ.length_eq;generalize nR kv seen=L at *
 have kO:∀ K:ah→ai→Prop,K (.dT []) [some (.var [.pm (ints kv) vs]),none,none,fx (ints (gO L))]→aq Tryz.prog (.fn 225 [] []) [jk 3 1 (ints L)] [some (.var [.pm (ints kv) vs]),none,none,fx (ints L)] K:=fun K hK=>by
  cases L with
  | nil =>
   rw [show ints []=[] from rfl,s_,sM]
   refine aq.BZ Tryz.func225 rfl rfl (fun a cap w=>Tryz.slices_Sort_int_none a cap w) ?_;rw [show gO []=[] from bg (Fb []),show ints []=[] from rfl,sM] at hK
   exact hK
  | cons v L =>
   have eH:ints (v :: L)≠[]:=by simp [ints]
   have Pm:ints (gO (v :: L))≠[]:=by
    intro e;have:=congrArg List.length e;rw [iZ,Fb] at this;simp at this
   rw [Dt eH,Cu eH,iZ];rw [Cu Pm] at hK;exact aq.B0 (zs:=v :: L) (ts:=gO (v :: L)) Tryz.func225 rfl rfl rfl (Fb _) (fun w cw off cap hH hb=>Tryz.slices_Sort_int cw off cap _ w hH hb (by omega)) (fun a cap w=>Tryz.slices_Sort_int_none a cap w) hK
 refine aG.go 1000 ?_;simp only [go_sem];refine kO _ ?_;refine aG.go 1000 ?_;simp only [go_sem];rw [gC,Yem (l':=ints (gO L)) (by rw [iZ,iZ,Fb])];exact ⟨[some (.var [.pm (ints kv) vs]),none,none,fx (ints (gO L))],by simp [go_sem],by simp,⟨⟨⟨dq _,iO (au _) mQ⟩,trivial⟩,trivial,trivial,Ag _ (dq _),trivial⟩,Bh (show 3<4 by decide) 1 _,rfl,rfl⟩
end Go.Proofs
namespace Go.dm
open Go
section
variable {P:Program} {lo:Ctx} {Q:ct→St→Prop} {tm:List ah} {σ:ai} {q:Nat} {ks vs:List ah} {fz:Bool}
theorem RP {X:Nat→Nat→Prop} {base mb:Nat} {D:List Deferred} {β:Env} {a:Act} {w:World} (hb:bP σ q=some (.map ks vs fz)) (h3:Rel X base mb D ⟨tm,σ⟩ β a w):Rel X base mb D ⟨tm.map (qf q ks vs),σ.set q none⟩ β a w:=by
 refine ⟨h3.s.less (fun c x hc=>(Fw hc).2) bj,by simpa using h3.n,fun k hk=>?_,h3.d⟩;simp only [aj] at hk;have:=Ny h3.s (kq hb) (h3.t k hk);simpa [cq,hk] using this
theorem Re {n:Nat} {β β':Env} {w w':World} {σ':ai} (g3:Ext n (σ.set q none) β w σ' β' w'):Ext n σ β w σ' β' w' :=
 ⟨g3.os,g3.tape,g3.output,g3.size,fun g o v hc hn=>g3.cell g o v hc (fun hm=>hn (Bk hm)),fun g hg hn=>g3.block g hg (fun o hm=>hn o (Bk hm)),fun g o hm=>(g3.jb g o hm).imp Bk id,g3.env⟩
theorem aG.Bu {all:Array Oper} {l:List Oper} {k:List KI} (hb:bP σ q=some (.map ks vs fz)) (he:aG P lo Q (.ops all l :: k) .normal ⟨tm.map (qf q ks vs),σ.set q none⟩):aG P lo Q (.ops all l :: k) .normal ⟨tm,σ⟩:=by
 simp only [aG] at he ⊢;refine fun hs=>?_;intro X base mb D β a w b k cs h1 h2 h3;obtain ⟨e1,kK,fy,a1,w1,q,g1,g2,g3,g4⟩:=(he hs) X base mb D β a w b k cs (by simpa using h1) h2 (RP hb h3);exact ⟨e1,kK,fy,a1,w1,q,g1,g2,Re g3,g4⟩
end
section
variable {q:Nat} {ks vs:List ah}
@[go_sem] theorem Xe2 {b o:Nat}:qf q ks vs (.ptr b o) = .ptr b o:=rfl
@[go_sem] theorem Xig {b o n s:Nat}:qf q ks vs (.os b o n s) = .os b o n s:=rfl
@[go_sem] theorem Yvz:qf q ks vs .undef = .undef:=rfl
@[go_sem] theorem Xbw {b:Bool}:qf q ks vs (.bool b) = .bool b:=rfl
@[go_sem] theorem Xcs {k:IntKind} {n:Int}:qf q ks vs (.int k n) = .int k n:=rfl
@[go_sem] theorem Xhn {s:Nat} {l:List ah}:qf q ks vs (.ps s l) = .ps s l:=rfl
@[go_sem] theorem Xc9:qf q ks vs .aW = .aW:=rfl
@[go_sem] theorem Xd8 {l:List ah}:qf q ks vs (.agg l) = .agg l:=rfl
@[go_sem] theorem Xdi {l:List ah}:qf q ks vs (.dT l) = .dT l:=rfl
@[go_sem] theorem Xcv:qf q ks vs (.map q) = .pm ks vs:=if_pos rfl
@[go_sem] theorem Xg8 {g:FuncId} {a c:List ah}:qf q ks vs (.fn g a c) = .fn g a c:=rfl
end
theorem aq.mK {P:Program} {F:Frame→List Frame→Sem Next→World→Value→World→Prop} {f f':ah} {args args':List ah} {K K':ah→ai→Prop} {Z σ:ai} (ι:Nat→Nat) (uM:∀ b b',b<Z.length→b'<Z.length→ι b = ι b'→b=b') (hb:∀ b,b<Z.length→ι b < σ.length)
  (wP:∀ b,b<Z.length→∃ o,Z[b]? = some o∧σ[ι b]? = some (o.map (ef ι))) (hf:f.low Z.length) (oM:ek ι f=f') (ha:bF Z.length args) (ha':eK ι args=args') (hs:bD Z.length Z)
  (h:dJ P F f args Z K') (hk:∀ r Z',K' r Z'→Z.length≤Z'.length∧bD Z'.length Z'∧r.low Z'.length∧K (ek (nM ι Z.length σ.length) r) (ka ι Z.length Z' σ)):dJ P F f' args' σ K:=by
 have:=aq.yW (K:=K) ι uM hb wP hf ha hs (h.mono hk)
 rwa [oM,ha'] at this
section
variable {P:Program} {lo:Ctx} {Q:ct→St→Prop} {tm:List ah} {σ:ai} {q b:Nat} {ks vs cs:List ah} {fz:Bool} {X:Nat→Nat→Prop} {base:Nat} {β:Env} {w:World}
theorem cS.EL (hr:cS X base σ β w) {b:Nat} {x y:bO} (hb:bP σ b=some x) (hm:∀ L o,y.mut L o↔x.mut L o) (jA:∀ L,β b=some L→gI w (MT X σ β) β L x→gI w (MT X σ β) β L y):cS X base (cr σ b y) β w:=by
 have nN:=kq hb;have bA:b < σ.length:=(aJ.1 nN).1;have gS:cr σ b y = σ.set b (some y):=by unfold cr;rw [if_pos bA]
 have hM:MT X (cr σ b y) β=MT X σ β:=funext fun g=>funext fun o=>propext (by unfold MT;rw [A3 hb hm]);have eJ:∀ c z,(cr σ b y)[c]? = some (some z)→(c=b∧z=y)∨σ[c]? = some (some z):=fun c z h=>by
  rw [gS,dz] at h;split at h
  ·rename_i e;subst e;cases h;exact .inl ⟨rfl,rfl⟩
  ·exact .inr h
 have vE:∀ c z,(cr σ b y)[c]? = some (some z)→∃ z',σ[c]? = some (some z'):=fun c z h=>by
  rcases eJ c z h with ⟨rfl,rfl⟩ | h
  ·exact ⟨x,nN⟩
  ·exact ⟨z,h⟩
 refine ⟨fun c hc=>hr.oo c (by rw [E0 hb] at hc;exact hc),fun c z hc=>?_,fun c c' z z' L L' h1 h2 h3 h4 h5=>?_,hr.size,hr.qL,hr.gl⟩
 ·rw [hM];rcases eJ c z hc with ⟨rfl,rfl⟩ | h
  ·obtain ⟨L,q1,q2,q3,q4⟩:=hr.cw c x nN;exact ⟨L,q1,q2,q3,jA L q1 q4⟩
  ·exact hr.cw c z h
 ·obtain ⟨u,hu⟩:=vE c z h1;obtain ⟨u',wb⟩:=vE c' z' h2;exact hr.inj c c' u u' L L' hu wb h3 h4 h5
theorem Ynr {mb:Nat} {D:List Deferred} {a:Act} (hq:bP σ q=some (.map ks vs fz)) (hb:bP σ b=some (.var cs)) (eH:b≠q) (h3:Rel X base mb D ⟨tm,σ⟩ β a w) :
  Rel X base mb D ⟨tm.map (qf q ks vs),cr (σ.set q none) b (.var (cs.map (qf q ks vs)))⟩ β a w:=by
 have h1:=RP hq h3;have rX:bP (σ.set q none) b=some (.var cs):=by rw [bP,bX (fun e=>eH e.symm)];exact hb
 have hm:∀ L o,(bO.var (cs.map (qf q ks vs))).mut L o↔(bO.var cs).mut L o:=fun L o=>by simp [bO.mut]
 have hM:MT X (cr (σ.set q none) b (.var (cs.map (qf q ks vs)))) β=MT X (σ.set q none) β:=funext fun g=>funext fun o=>propext (by unfold MT;rw [A3 rX hm]);refine ⟨cS.EL h1.s rX hm fun L hL jA=>?_,h1.n,fun k hk=>by rw [hM];exact h1.t k hk,h1.d⟩;obtain ⟨c,e,k1,k2,k3,k4⟩:=jA;refine ⟨c,e,k1,k2,by simpa using k3,fun k hk=>?_⟩;simp only [aj] at hk;have k5:=k4 k hk;have hg:(cs.map (qf q ks vs)).getD k .undef=qf q ks vs (cs.getD k .undef):=by simp [List.getD,hk]
 rw [hg];generalize cs.getD k .undef=x at k5;generalize c.getD k undef=vv at k5;cases x with
 | map c' =>
  refine Ny h3.s (kq hq) ?_;cases k5 with
  | map hh=>exact .map hh
 | _=>exact k5
theorem Yn5 {n:Nat} {β':Env} {w':World} {σ':ai} (hb:bP σ b=some (.var cs)) (eH:b≠q) (g3:Ext n (cr (σ.set q none) b (.var (cs.map (qf q ks vs)))) β w σ' β' w'):Ext n σ β w σ' β' w':=by
 have rX:bP (σ.set q none) b=some (.var cs):=by rw [bP,bX (fun e=>eH e.symm)];exact hb
 exact Re (Ext.vL rX (fun L o=>by simp [bO.mut]) g3)
theorem aG.Hf {all:Array Oper} {l:List Oper} {k:List KI} (hq:bP σ q=some (.map ks vs fz)) (hb:bP σ b=some (.var cs)) (eH:b≠q)
  (he:aG P lo Q (.ops all l :: k) .normal ⟨tm.map (qf q ks vs),cr (σ.set q none) b (.var (cs.map (qf q ks vs)))⟩):aG P lo Q (.ops all l :: k) .normal ⟨tm,σ⟩:=by
 have rX:bP (σ.set q none) b=some (.var cs):=by rw [bP,bX (fun e=>eH e.symm)];exact hb
 simp only [aG] at he ⊢;refine fun hs=>?_;intro X base mb D β a w b k cs h1 h2 h3;obtain ⟨e1,kK,fy,a1,w1,q,g1,g2,g3,g4⟩:=(he hs) X base mb D β a w b k cs (by simp only;rw [E0 rX];simpa using h1) h2 (Ynr hq hb eH h3);exact ⟨e1,kK,fy,a1,w1,q,g1,g2,Yn5 hb eH g3,g4⟩
end
end Go.dm
namespace Go.Proofs
open Go Go.dm
attribute [local go_sem] Nat.reduceAdd Nat.reduceSub Nat.reduceMul Nat.reduceLeDiff Nat.reduceEqDiff Nat.reduceBEq Nat.reduceLT Nat.le_refl Int.natCast_zero Nat.sub_zero List.length_map Int.toNat_natCast Int.natCast_one Int.reduceEq Int.reduceLT Int.reduceLE Int.reduceNe Int.sub_zero Int.zero_add Int.toNat_one
def jc (l:List Tm):Bool:=l.any fun t=>!decide (t.check=0)
theorem Ybq (t:Tm) (ht:t.size<99999999) (σ:ai) (hs:bD σ.length σ):aq Tryz.prog (.fn 145 [] []) [t.aM] σ (fun r σ'=>r = .bool (!decide (t.check=0))∧σ' = σ):=by
 have h:aD Tryz.prog 145 [t.aM] (.bool (!decide (t.check=0))):=by
  refine aD.begin (rs:=[.tmp 2]) (m:=5) 1000 Tryz.func145 rfl rfl rfl (by decide) trivial ?_;have sP:=Dd t (by omega);simp only [go_sem,fL];refine aq.bS [] (sP) (by (try simp only [cZ]);exact cx _ _ _) (by simp [go_sem,dG,bW]) ?_;simp only [bC,bN,bL,if_true];refine aG.go 1000 ?_
  by_cases h:t.check=0
  ·simp only [go_sem,h]
  ·simp only [go_sem,h]
 refine aq.bS [] h (cx _ _ _) (by simp [go_sem,dG]) ?_;rw [je];simp only [ite_self];exact ⟨trivial,trivial⟩
theorem LU (l:List Tm) (hl:l.length<99999999) (ht:∀ t∈l,t.size<99999999):aD Tryz.prog 112 [.ps 2 (l.map Tm.aM)] (.bool (jc l)):=by
 refine aD.begin (rs:=[.tmp 2]) (m:=4) 1000 Tryz.func112 rfl rfl rfl (by decide) trivial ?_;simp only [go_sem];refine (Lb [] (.fn 145 [] []) (fun t=>!decide (t.check=0)) l (by omega) trivial ⟨trivial,trivial⟩ (fun i h=>Ybq _ (ht _ (aC h)) [] trivial)).mono ?_;rintro r σ' ⟨rfl,rfl⟩;refine aG.go 1000 ?_;simp only [go_sem,jc]
def zV (s:List (Tm×Tm)):Prop:=∀ x∈s,x.1.fit∧x.2.fit∧x.2.size<99999999
def CZ (m:List Bd):Prop:=∀ b∈m,0≤b.v∧b.v≤9223372036854775807∧b.t.fit∧b.t.size<99999999
theorem Yh0 {x:Tm×Tm} {r:List (Tm×Tm)} (h:zV (x :: r)):zV ((x.1.args.zip x.2.args).reverse++r):=by
 intro y hy;obtain ⟨h1,h2,h3⟩:=h x (by simp);rcases aY.1 hy with hy | hy
 ·have hy:=dn.1 hy;have a1:=uD (dx hy).2;have a2:=po x.2;exact ⟨xF (yo h1) _ (dx hy).1,xF (yo h2) _ (dx hy).2,by omega⟩
 ·exact h y (by simp [hy])
theorem R7:∀ (s:List (Tm×Tm)) (m m':List Bd),gU s m=some m'→zV s→CZ m→(m.map Bd.v).Nodup→CZ m'∧(m'.map Bd.v).Nodup∧m'.length≤m.length+lU s:=by
 intro s m
 induction s,m using gU.induct with
 | case1 m =>
  intro m' h h1 h2 h3;rw [gU] at h;cases h;exact ⟨h2,h3,by simp [lU]⟩
 | case2 x r m hv c hf he ih =>
  intro m' h h1 h2 h3;rw [gU,if_pos hv,hf] at h;simp only [if_pos he] at h;obtain ⟨a1,a2,a3⟩:=ih m' h (fun y hy=>h1 y (by simp [hy])) h2 h3;exact ⟨a1,a2,by simp only [lU];omega⟩
 | case3 x r m hv c hf he =>
  intro m' h;rw [gU,if_pos hv,hf] at h;simp only [if_neg he] at h;cases h
 | case4 x r m hv hf ih =>
  intro m' h h1 h2 h3;rw [gU,if_pos hv,hf] at h;simp only at h;obtain ⟨b1,b2,b3⟩:=h1 x (by simp);have CI:=GG b1;unfold mE at CI;have hp:=A5 x.1;obtain ⟨a1,a2,a3⟩:=ih m' h (fun y hy=>h1 y (by simp [hy])) (fun b hb=>by
   rcases aY.1 hb with hb | hb
   ·exact h2 b hb
   ·rw [aL.1 hb];exact ⟨hv,by simp only;omega,b2,b3⟩) (by
   rw [cY,fU];refine ⟨h3,by simp,fun u hu w hw=>?_⟩;simp only [aK,aV,aL] at hw;subst hw;obtain ⟨b,hb,rfl⟩:=cB.1 hu;intro e;exact absurd (by simpa using e) (iX.1 hf b hb))
  refine ⟨a1,a2,?_⟩;simp only [lU,az,ax,aS] at a3 ⊢;omega
 | case5 x r m hv hc =>
  intro m' h;rw [gU,if_neg hv,if_pos hc] at h;cases h
 | case6 x r m hv hc ih =>
  intro m' h h1 h2 h3;rw [gU,if_neg hv,if_neg hc] at h;obtain ⟨a1,a2,a3⟩:=ih m' h (Yh0 h1) h2 h3;have:=GC x.1 x.2 r;exact ⟨a1,a2,by simp only [lU];omega⟩
theorem Yow {a b:List Tm} (CH:Tm.fits a) (Ap:Tm.fits b) (uK:Tm.bG b<99999999):zV (a.zip b).reverse:=fun x hx=>by
 have hx:=dn.1 hx;have:=uD (dx hx).2;exact ⟨xF CH _ (dx hx).1,xF Ap _ (dx hx).2,by omega⟩
theorem Yon (σ:ai) (b sz:Nat) (l:List ah):nT .slice σ (jk b sz l)=some l.length:=by
 cases l<;>rfl
theorem Zwb (bs:List Bd) (v:Int) (z:ah):fv (fS bs) (gE bs) z (.int .i64 v) false=match bs.find? (fun b=>b.v==v) with | some b=>b.t.aM | none=>z:=by
 have h:=Gl v bs 0;unfold fv;cases hk:fG (.int .i64 v) (fS bs) 0 with
 | some i =>
  rw [hk] at h;obtain ⟨_,b,h2,h3⟩:=h;rw [h3];simp only [bd,if_false,gE,List.getD,cu];rw [ie] at h2;rw [h2];rfl
 | none =>
  rw [hk] at h;rw [show bs.find? (fun b=>b.v==v)=none from h];rfl
def jx (m:List Bd) (ks:List Int):List Bd:=ks.filterMap fun v=>match m.find? (fun c=>c.v==v) with | some c=>if c.t.head = -1 - v then none else some ⟨v,c.t⟩ | none=>none
def ij (a b:List Tm):List Bd×Bool×Int :=
 if a.length≠b.length∨jc a=true∨jc b=true then ([],false,1) else
  match gU (a.zip b).reverse [] with
  | none=>([],false,0)
  | some m=>(jx m (gO (m.map Bd.v)),true,0)
theorem Yn7 (kv:List Int) (vs:List ah) (mQ:bF 0 vs) (σ:ai) (hs:bD σ.length σ):aq Tryz.prog (.fn 210 [] []) [.pm (ints kv) vs] σ
  (fun r σ'=>r = .fn 226 [] [.ptr σ.length 0]∧σ' = σ++[some (.var [.pm (ints kv) vs])]):=by
 refine aq.begin (rs:=[.tmp 2]) (m:=3) 1000 Tryz.func210 rfl rfl rfl rfl rfl ?_;simp only [go_sem];rw [Cq,gC];exact ⟨_,f_ _,by simp,pS (oe (by simp) hs) ⟨⟨⟨dq _,iO (au _) mQ⟩,trivial⟩,trivial⟩,by simp [go_sem],rfl,rfl⟩
theorem Vm (m:List Bd):fS m=ints (m.map Bd.v):=by simp [fS,ints]
theorem Yrv (a b:List Tm) (eH:a≠[]) (hs:Tm.bG a<99999999) (uK:Tm.bG b<99999999) (CH:Tm.fits a) (Ap:Tm.fits b) :
  aD Tryz.prog 188 [.ps 2 (a.map Tm.aM), .ps 2 (b.map Tm.aM)] (.dT [.ps 3 (oJ (ij a b).1), .bool (ij a b).2.1, .int .i64 (ij a b).2.2]):=by
 refine aD.begin (rs:=[.tmp 4, .tmp 5, .tmp 6]) (m:=53) 1000 Tryz.func188 rfl rfl rfl (by decide) (by simp [go_sem]) ?_;have mO:=oZ a;have xc:=oZ b;have hwa:=LU a (by omega) (fun t ht=>by have:=uD ht;omega);have Yi:=LU b (by omega) (fun t ht=>by have:=uD ht;omega);by_cases h1:a.length=b.length
 ·have oq:(a.length:Int)=b.length:=by omega
  simp only [go_sem,aj,oq];refine aq.bS [] (hwa) (cx _ _ _) (by simp [go_sem,bW]) ?_;simp only [bC,bN,bL,if_true];refine aG.go 1000 ?_;cases h2:jc a with
  | true =>
   have hm:ij a b=([],false,1):=by unfold ij;rw [if_pos (.inr (.inl h2))]
   rw [hm];simp only [go_sem,show oJ []=[] from rfl]
  | false =>
   simp only [go_sem];refine aq.bS [] (Yi) (cx _ _ _) (by simp [go_sem,bW]) ?_;simp only [bC,bN,bL,if_true];refine aG.go 1000 ?_;cases h3:jc b with
   | true =>
    have hm:ij a b=([],false,1):=by unfold ij;rw [if_pos (.inr (.inr h3))]
    rw [hm];simp only [go_sem,show oJ []=[] from rfl]
   | false =>
    have hm:ij a b=match gU (a.zip b).reverse [] with | none=>([],false,0) | some m=>(jx m (gO (m.map Bd.v)),true,0):=by
     unfold ij;rw [if_neg (by simp [h1,h2,h3])]
    rw [hm];simp only [go_sem];refine (Ygi _ a b rfl eH h1 hs uK CH Ap).mono ?_;cases hg:gU (a.zip b).reverse [] with
    | none =>
     intro r σ' hr;obtain rfl:r = .bool false:=hr;refine aG.go 1000 ?_;simp only [go_sem,show oJ []=[] from rfl]
    | some m =>
     rintro r σ' ⟨rfl,rfl⟩;refine aG.Bu (q:=0) (ks:=fS m) (vs:=gE m) (fz:=false) rfl ?_;refine aG.go 1000 ?_;simp only [go_sem,aK,aV];rw [Vm];refine (Yn7 _ _ (jf m).2 [none] ⟨trivial,trivial⟩).mono ?_;rintro r σ' ⟨rfl,rfl⟩;refine aG.go 1000 ?_;simp only [go_sem];obtain ⟨jA,ph,HY⟩:=R7 _ _ _ hg (Yow CH Ap uK) (fun b hb=>by cases hb) (by simp);have hzl:=JY a b;rw [J2,aS] at HY;have hml:(m.map Bd.v).length<100000000:=by rw [aj];omega
     have El:∀ v∈gO (m.map Bd.v), ∃ c,m.find? (fun c=>c.v==v)=some c∧c.v=v∧c∈m:=fun v hv=>by
      have hv:=(j8 _ _).mem_iff.1 hv;obtain ⟨c,hc,rfl⟩:=cB.1 hv;cases hf:m.find? (fun d=>d.v==c.v) with
      | none=>exact absurd (by simp) (iX.1 hf c hc)
      | some d=>exact ⟨d,rfl,by simpa using fV hf,cb hf⟩
     have hso:=Z5 (m.map Bd.v) (gE m) (jf m).2 hml;generalize HL:m.map Bd.v=kv at *
     refine aq.yW (f:=.fn 209 [] []) (args:=[.fn 226 [] [.ptr 0 0]]) (Z:=[some (.var [.pm (ints kv) (gE m)])]) (fun b=>b+1) (fun b b' h1 h2 e=>by omega) (fun b hb=>by simp at hb;subst hb;simp) (fun b hb=>?_) ⟨trivial,trivial⟩ ⟨⟨trivial,⟨Nat.zero_lt_succ 0,trivial⟩⟩,trivial⟩ ⟨⟨⟨dq _,(jf m).2⟩,trivial⟩,trivial⟩ (hso.mono ?_)
     ·simp at hb;subst hb;refine ⟨_,rfl,?_⟩;simp [ef,eK,ek,cK (dq _),cK (jf m).2]
     rintro r σ' ⟨rfl,rfl⟩;refine ⟨by simp,⟨⟨⟨dq _,iO (au _) (jf m).2⟩,trivial⟩,trivial,trivial,Ag _ (dq _),trivial⟩,Bh (show 3<4 by decide) 1 _,?_⟩;simp only [go_sem,ka,fK,nM,aK,aV];rw [cK (dq _),cK (jf m).2];have zr:Option.map (ef (nM (fun b=>b+1) 1 2)) (fx (ints (gO kv)))=fx (ints (gO kv)):=by
      cases hq:ints (gO kv) with
      | nil=>rfl
      | cons x l =>
       have xV:bF 0 (ints (gO kv)):=dq _;rw [Fk,bM,yl,← hq,cK xV]
     rw [zr];refine aG.go 1000 ?_;simp only [go_sem,Yon,iZ];obtain ⟨K,hK⟩:∃ K,gO kv=K:=⟨_,rfl⟩;have hKl:K.length=kv.length:=by rw [← hK,Fb]
     rw [hK] at El ⊢;refine aG.gf (ι:={q:Nat×List Bd // q.1≤K.length∧q.2++jx m (K.drop q.1)=jx m K∧q.2.length≤q.1}) 1000
      (fun q=>fe 55 [(4, .aW),(5, .bool false),(6, .int .i64 0),(7, .pm (ints kv) (gE m)),(8,jk 5 3 (oJ q.1.2)),(32,jk 4 1 (ints K)),(33, .int .i64 K.length),(34, .int .i64 q.1.1)])
      (fun q=>[none,none,none,none,fx (ints K),fx (oJ q.1.2)]) (fun q=>K.length - q.1.1) ⟨(0,[]),by simp⟩ [] ?_ (fun _=>au _) ?_
     ·refine iz rfl ?_;simp only [go_sem,show oJ []=[] from rfl,s_,sM,(jf m).2,iO (au 6) (jf m).2,dq,cK (jf m).2,cK (dq _)]
     ·rintro ⟨⟨i,L⟩,hi,aN,Bx⟩;simp only at hi aN Bx;by_cases bA:(i:Int)<K.length
      ·have aU:i<K.length:=by omega
       have hw:IntKind.i64.wrap ((i:Int)+1)=((i+1:Nat):Int):=by rw [dQ (by omega)];omega
       have BN:ints K≠[]:=by intro e;have:=congrArg List.length e;rw [iZ] at this;simp at this;rw [this] at aU;simp at aU
       have HG:=s0 aU;obtain ⟨c,sO,lJ,BB⟩:=El _ (aC aU);rw [ao aU] at aN;obtain ⟨v,hv⟩:∃ v,K[i]=v:=⟨_,rfl⟩;rw [hv] at HG sO lJ aN;obtain ⟨o1,o2,o3,o4⟩:=jA c BB;have uL:IntKind.i64.wrap (-1 - v) = -1 - v:=dQ (by omega);have pI:=Zwb m v (.agg [.int .i64 0, .aW]);rw [sO] at pI;simp only at pI;have um:=Ad m v;rw [Vm,HL] at pI um;by_cases r8:c.t.head = -1 - v
       ·have PO:jx m (v :: K.drop (i+1))=jx m (K.drop (i+1)):=by simp [jx,sO,r8]
        rw [PO] at aN;simp only [go_sem,bA,Dt BN,Cu BN,iZ,HG,um,pI,cZ,uL,r8,hw];refine ⟨by omega,aU,⟨(i+1,L),by simp only;omega,aN,by simp only;omega⟩,[],iz rfl ?_,by simp only;omega⟩;simp only [go_sem,(jf m).2,iO (au 6) (jf m).2,dq,cK (jf m).2,cK (dq _),FA,Jl (of_eq_true (FA L))]
       ·have PO:jx m (v :: K.drop (i+1))=⟨v,c.t⟩ :: jx m (K.drop (i+1)):=by simp [jx,sO,r8]
        rw [PO] at aN;simp only [go_sem,bA,Dt BN,Cu BN,iZ,HG,um,pI,cZ,uL,r8,hw];have h5:bP [none,none,none,none,some (bO.row (ints K) 0),fx (oJ L),some (bO.row [.agg [.int .i64 v, .int .i64 c.t.head, .ps 2 (c.t.args.map Tm.aM)]] 0)] 5=fx (oJ L):=rfl;have nO:eW ⟨3,true,40,[.int .i64 0, .int .i64 0, .aW], .struct⟩ [.agg [.int .i64 v, .int .i64 c.t.head, .ps 2 (c.t.args.map Tm.aM)]]:=⟨fun y hy=>by rw [aL.1 hy];exact ⟨rfl,rfl⟩,by decide,by decide,rfl⟩;refine ⟨by omega,aU,?_⟩;simp only [go_sem,vX h5,nO,Cs,hw];refine ⟨by omega,⟨(i+1,L++[⟨v,c.t⟩]),by simp only;omega,by rw [← aN,cU];rfl,by simp only [az,ax,aS];omega⟩,[(5,7),(7,5)],iz rfl ?_,by simp only;omega⟩;dsimp only
        have hba:oJ (L++[⟨v,c.t⟩])=oJ L++[.agg [.int .i64 v, .int .i64 c.t.head, .ps 2 (c.t.args.map Tm.aM)]]:=by simp [oJ,Bd.aM]
        have lw:bF 0 (oJ (L++[⟨v,c.t⟩])):=of_eq_true (FA _);rw [hba] at lw ⊢;rw [Fq,Fg];simp only [go_sem,(jf m).2,iO (au 6) (jf m).2,dq,cK (jf m).2,cK (dq _),cK lw,iO (au 6) lw,Cs]
      ·have dZ:i=K.length:=by omega
       subst dZ;rw [aX] at aN;simp only [go_sem,bA];refine aG.go 1000 ?_;simp only [go_sem];rw [← aN,show jx m []=[] from rfl,bu]
       rw [rO rfl rfl];trivial
 ·have oq:¬ (a.length:Int)=b.length:=by omega
  have hm:ij a b=([],false,1):=by unfold ij;rw [if_pos (.inl h1)]
  rw [hm];simp only [go_sem,aj,oq,show oJ []=[] from rfl]
theorem Yjb (a b:Tm) (ha:a.size<99999999) (hb:b.size<99999999) (CH:a.fit) (Ap:b.fit) :
  aD Tryz.prog 169 [a.aM,b.aM] (.dT [.ps 3 (oJ (ij [a] [b]).1), .bool (ij [a] [b]).2.1, .int .i64 (ij [a] [b]).2.2]):=by
 refine aD.begin (rs:=[.tmp 4, .tmp 5, .tmp 6]) (m:=13) 1000 Tryz.func169 rfl rfl rfl (by decide) (by simp [go_sem]) ?_;have fq:=Yrv [a] [b] (by simp) (by simpa [Tm.bG] using ha) (by simpa [Tm.bG] using hb) ⟨CH,trivial⟩ ⟨Ap,trivial⟩;generalize ij [a] [b]=z at *
 simp only [go_sem,fL];refine aq.bS [2,3] fq ?_ (by simp [go_sem,dG]) ?_
 ·simp only [go_sem,cZ,aK,aV]
 generalize bC _=fl;cases fl
 ·simp only [bd,if_false];refine aG.go 1000 ?_;simp only [go_sem]
 ·simp only [if_true];refine aG.go 1000 ?_;simp only [go_sem]
structure nE where
 i:Int
 rt:Bool
 p:List Int
 t:Tm
def nE.aM (s:nE):ah:=.agg [.int .i64 s.i, .bool s.rt, .ps 1 (ints s.p), .int .i64 s.t.head, .ps 2 (s.t.args.map Tm.aM)]
theorem Mn (s:nE):s.aM.cells=[.int .i64 s.i, .bool s.rt, .ps 1 (ints s.p), .int .i64 s.t.head, .ps 2 (s.t.args.map Tm.aM)]:=rfl
theorem Yss {n:Nat} (s:nE):s.aM.low n:=⟨trivial,trivial,dq _,trivial,bW _,trivial⟩
def Li.side (l:Li) (rt:Bool):Tm:=if rt then l.r else l.l
def Li.sy (l:Li) (rt:Bool) (u:Tm):Li:=if rt then ⟨l.neg,l.l,u⟩ else ⟨l.neg,u,l.r⟩
def lE (c:List Li) (s:nE) (u:Tm):List Li:=match c[s.i.toNat]? with
 | some l=>c.set s.i.toNat (l.sy s.rt ((l.side s.rt).jD s.p u))
 | none=>c
theorem Yqz (c:List Li) (s:nE) (u v:Tm) (i:Nat) (h:i<c.length) (hi:s.i=i) (hv:(c[i].side s.rt).og s.p=some v) (hl:c.length≤1000000) (hp:s.p.length≤1000000) (hs:(c[i].side s.rt).size≤1000000) :
  aD Tryz.prog 142 [.ps 5 (lits c),s.aM,u.aM] (.ps 5 (lits (lE c s u))):=by
 refine aD.begin (rs:=[.tmp 6]) (m:=43) 1000 Tryz.func142 rfl rfl rfl (by decide) (cy _) ?_;have eH:c≠[]:=by intro e;subst e;simp at h
 have mq:=Yu9 (c[i].side s.rt) s.p u v hp hs hv;have lK:=tz h;have hpc:lE c s u=c.set i (c[i].sy s.rt ((c[i].side s.rt).jD s.p u)):=by
  unfold lE;rw [hi,aR,av h]
 rw [hpc];generalize c[i]=l at *
 simp only [go_sem,Mn,fL];refine aq.ur [] (IX c eH (by omega)) (cx _ _ _) (by simp [go_sem,cy]) ?_;rw [je];simp only [Bc,A9,Bj,yl,Bl,up,cK (cy _)];refine aG.go 1000 ?_;cases hr:s.rt with
 | true =>
  rw [hr] at mq;simp only [go_sem,hi,fR,lK,kH];refine ⟨⟨by omega,by omega⟩,?_⟩;refine aG.draw [.no, .no, .no, .no, .no, .no, .no, .no, .no, .no, .no,⟨none,[],[3]⟩, .no, .no,⟨none,[3],[]⟩] 4 4 mixed rfl rfl (by decide) ?_;simp only [go_sem,da,lK,kH,fR,h];refine kG mq (by simp only [Li.side,cZ,if_true,bd,if_false];exact cx _ _ _) (by simp [go_sem,dG,dq]) ?_;generalize hy:(l.side true).jD s.p u=y at *
  simp only [go_sem,fL,lK,kH,fR,h];have he:(lits c).set i (jM (cX l.aM) [.bool l.neg, .int .i64 l.l.head, .ps 2 (l.l.args.map Tm.aM), .int .i64 y.head, .ps 2 (y.args.map Tm.aM)])=lits (c.set i (l.sy true y)):=by
   rw [show jM (cX l.aM) [.bool l.neg, .int .i64 l.l.head, .ps 2 (l.l.args.map Tm.aM), .int .i64 y.head, .ps 2 (y.args.map Tm.aM)]=(l.sy true y).aM from rfl]
   simp [lits,List.map_set]
  rw [he];refine ⟨by omega,?_⟩;refine aG.go 1000 ?_;simp only [go_sem,fR,bj];rw [bh (by rw [fR,bj];exact ae _)];exact cx _ _ _
 | false =>
  rw [hr] at mq;simp only [go_sem,hi,fR,lK,kH];refine ⟨⟨by omega,by omega⟩,?_⟩;refine aG.draw [.no, .no, .no, .no, .no, .no, .no, .no, .no, .no, .no,⟨none,[],[3]⟩, .no, .no,⟨none,[3],[]⟩] 4 4 mixed rfl rfl (by decide) ?_;simp only [go_sem,da,lK,kH,fR,h];refine kG mq (by simp only [Li.side,cZ,if_true,bd,if_false];exact cx _ _ _) (by simp [go_sem,dG,dq]) ?_;generalize hy:(l.side false).jD s.p u=y at *
  simp only [go_sem,fL,lK,kH,fR,h];have he:(lits c).set i (jM (cX l.aM) [.bool l.neg, .int .i64 y.head, .ps 2 (y.args.map Tm.aM), .int .i64 l.r.head, .ps 2 (l.r.args.map Tm.aM)])=lits (c.set i (l.sy false y)):=by
   rw [show jM (cX l.aM) [.bool l.neg, .int .i64 y.head, .ps 2 (y.args.map Tm.aM), .int .i64 l.r.head, .ps 2 (l.r.args.map Tm.aM)]=(l.sy false y).aM from rfl]
   simp [lits,List.map_set]
  rw [he];refine ⟨by omega,?_⟩;refine aG.go 1000 ?_;simp only [go_sem,fR,bj];rw [bh (by rw [fR,bj];exact ae _)];exact cx _ _ _
def lM:List (Int×Int)→Int→Int→List (Int×Int)
 | [],k,s=>[(k,s)]
 | x :: r,k,s=>if x.1=k then (x.1,x.2+s) :: r else x :: lM r k s
def gb:List (Int×Int)→Int→Int
 | [],_=>0
 | x :: r,k=>if x.1=k then x.2 else gb r k
def kA (l:List (Int×Int)):List ah:=ints (l.map Prod.fst)
def l8 (l:List (Int×Int)):List ah:=ints (l.map Prod.snd)
theorem sL {n:Nat} (l:List (Int×Int)):bF n (kA l)∧bF n (l8 l):=⟨dq _,dq _⟩
theorem Yeq (l:List (Int×Int)) (v:Int):(kA l).all (sameKind (.int .i64 v))=true:=by simp [kA,ints,sameKind]
theorem Jh (x:Int×Int) (r:List (Int×Int)):kA (x :: r) = .int .i64 x.1 :: kA r:=rfl
theorem Jr (x:Int×Int) (r:List (Int×Int)):l8 (x :: r) = .int .i64 x.2 :: l8 r:=rfl
theorem LI (k:Int):∀ (l:List (Int×Int)) (n:Nat),(match fG (.int .i64 k) (kA l) n with
  | some i=>n≤i∧(l8 l).getD (i - n) .undef = .int .i64 (gb l k)∧∀ s,((kA l)=kA (lM l k s)∧(l8 l).set (i - n) (.int .i64 (gb l k+s))=l8 (lM l k s))
  | none=>gb l k=0∧∀ s,kA l++[.int .i64 k]=kA (lM l k s)∧l8 l++[.int .i64 s]=l8 (lM l k s))
 | [],n=>⟨rfl,fun s=>⟨rfl,rfl⟩⟩
 | x :: r,n=>by
  have ih:=LI k r (n+1);rw [Jh,Jr];simp only [fG,gb,lM];by_cases c:x.1=k
  ·have hc:fC (.int .i64 k) (.int .i64 x.1)=true:=by simp [fC,c]
   rw [hc,if_pos rfl];simp only [if_pos c];refine ⟨ae _,?_,fun s=>?_⟩
   ·simp [List.getD]
   ·rw [eV,Jh,Jr];exact ⟨rfl,rfl⟩
  ·have hc:fC (.int .i64 k) (.int .i64 x.1)=false:=by simp only [fC,beq_eq_false_iff_ne];exact fun e=>c e.symm
   rw [hc];simp only [bd,if_false,if_neg c];split at ih
   ·rename_i i _;obtain ⟨h1,h2,h3⟩:=ih;have hi:i - n=(i - (n+1))+1:=by omega
    refine ⟨by omega,?_,fun s=>?_⟩
    ·rw [hi,bI];exact h2
    ·obtain ⟨q1,q2⟩:=h3 s;rw [hi,cW,Jh,Jr,← q1,← q2];exact ⟨rfl,rfl⟩
   ·obtain ⟨h1,h2⟩:=ih;refine ⟨h1,fun s=>?_⟩;obtain ⟨q1,q2⟩:=h2 s;rw [Jh,Jr,← q1,← q2];exact ⟨rfl,rfl⟩
theorem Zxq (l:List (Int×Int)) (k:Int):fv (kA l) (l8 l) (.int .i64 0) (.int .i64 k) false = .int .i64 (gb l k):=by
 have h:=LI k l 0;unfold fv;cases hk:fG (.int .i64 k) (kA l) 0 with
 | some i=>rw [hk] at h;simpa using h.2.1
 | none=>rw [hk] at h;simp only [bd,if_false];rw [h.1]
theorem Zwa (l:List (Int×Int)) (k s:Int):jn (kA l) (l8 l) (.int .i64 k) (.int .i64 (gb l k+s))=(kA (lM l k s),l8 (lM l k s)):=by
 have h:=LI k l 0;unfold jn;cases hk:fG (.int .i64 k) (kA l) 0 with
 | some i=>rw [hk] at h;obtain ⟨q1,q2⟩:=h.2.2 s;simp only;rw [← q1,← q2,ie]
 | none=>rw [hk] at h;obtain ⟨q1,q2⟩:=h.2 s;simp only;rw [h.1,Int.zero_add,q1,q2]
def n6 (g:List Sy) (h:Int):Int:=((g[h.toNat]?).map Sy.weight).getD 0
mutual
def tj (g:List Sy) (s:Int):Tm→Int×List (Int×Int)→Int×List (Int×Int)
 | .mk h ts,x=>if h<0 then (x.1+s,lM x.2 h s) else pk g s ts (x.1+s*n6 g h,x.2)
def pk (g:List Sy) (s:Int):List Tm→Int×List (Int×Int)→Int×List (Int×Int)
 | [],x=>x
 | t :: ts,x=>pk g s ts (tj g s t x)
end
mutual
def Tm.CV (g:List Sy):Tm→Prop
 | .mk h ts=>h<g.length∧Tm.zF g ts
def Tm.zF (g:List Sy):List Tm→Prop
 | []=>True
 | t :: ts=>t.CV g∧Tm.zF g ts
end
theorem GK {g:List Sy} {t:Tm} (h:t.CV g):t.head<g.length:=by cases t;exact h.1
theorem Qv {g:List Sy} {t:Tm} (h:t.CV g):Tm.zF g t.args:=by cases t;exact h.2
theorem MI {g:List Sy}:∀ {ts:List Tm},Tm.zF g ts→∀ t∈ts,t.CV g
 | x :: ts,h,t,ht=>by
  rcases aQ.1 ht with rfl | ht
  ·exact h.1
  ·exact MI h.2 t ht
def ri (B:Int) (x:Int×List (Int×Int)):Prop:=-B≤x.1∧x.1≤B∧∀ y∈x.2, -B≤y.2∧y.2≤B
theorem Jt {B C:Int} {x:Int×List (Int×Int)} (h:ri B x) (hc:B≤C):ri C x:=⟨by have:=h.1;omega,by have:=h.2.1;omega,fun y hy=>⟨by have:=(h.2.2 y hy).1;omega,by have:=(h.2.2 y hy).2;omega⟩⟩
theorem Q5 {B s:Int} (h0 : 0≤B) (hs:s=1∨s = -1):∀ (l:List (Int×Int)) (k:Int),(∀ y∈l, -B≤y.2∧y.2≤B)→∀ y∈lM l k s, -(B+1)≤y.2∧y.2≤B+1
 | [],k,_,y,hy=>by rw [aL.1 hy];simp only;omega
 | x :: r,k,h,y,hy=>by
  have hx:=h x (by simp);simp only [lM] at hy;split at hy
  ·rcases aQ.1 hy with rfl | hy
   ·simp only;omega
   ·have:=h y (by simp [hy]);omega
  ·rcases aQ.1 hy with rfl | hy
   ·omega
   ·exact Q5 h0 hs r k (fun z hz=>h z (by simp [hz])) y hy
theorem WN {B:Int} (h0 : 0≤B):∀ (l:List (Int×Int)) (k:Int),(∀ y∈l, -B≤y.2∧y.2≤B)→-B≤gb l k∧gb l k≤B
 | [],k,_=>by simp only [gb];omega
 | x :: r,k,h=>by
  simp only [gb];split
  ·exact h x (by simp)
  ·exact WN h0 r k fun z hz=>h z (by simp [hz])
def uG (g:List Sy):Prop:=∀ s∈g, -1000000≤s.weight∧s.weight≤1000000
theorem RT {g:List Sy} (hg:uG g) (h:Int) : -1000000≤n6 g h∧n6 g h≤1000000:=by
 unfold n6;cases hq:g[h.toNat]? with
 | none=>simp
 | some s=>exact hg s (mf hq)
mutual
theorem Iy {g:List Sy} (hg:uG g) {s:Int} (hs:s=1∨s = -1):∀ (t:Tm) (x:Int×List (Int×Int)) (B:Int),0≤B→ri B x→ri (B+1000000*t.size) (tj g s t x)
 | .mk h ts,x,B,h0,hx=>by
  rw [tj,Tm.size];have hw:=RT hg h;split
  ·refine Jt (B:=B+1) ⟨?_,?_,Q5 h0 hs _ _ hx.2.2⟩ (by omega)
   ·have:=hx.1;simp only;omega
   ·have:=hx.2.1;simp only;omega
  ·have h1:ri (B+1000000) (x.1+s*n6 g h,x.2):=by
    refine ⟨?_,?_,fun y hy=>by have:=hx.2.2 y hy;omega⟩
    ·have:=hx.1;rcases hs with rfl | rfl<;>simp only<;>omega
    ·have:=hx.2.1;rcases hs with rfl | rfl<;>simp only<;>omega
   exact Jt (RQ hg hs ts _ _ (by omega) h1) (by omega)
theorem RQ {g:List Sy} (hg:uG g) {s:Int} (hs:s=1∨s = -1):∀ (ts:List Tm) (x:Int×List (Int×Int)) (B:Int),0≤B→ri B x→ri (B+1000000*Tm.bG ts) (pk g s ts x)
 | [],x,B,h0,hx=>by rw [pk];exact Jt hx (by simp [Tm.bG])
 | t :: ts,x,B,h0,hx=>by
  rw [pk,Tm.bG];exact Jt (RQ hg hs ts _ _ (by omega) (Iy hg hs t x B h0 hx)) (by omega)
end
def qG (x:Int×List (Int×Int)):ai:=[some (.map (kA x.2) (l8 x.2) false),some (.var [.int .i64 x.1, .map 0])]
theorem R0 (g:List Sy) (hg:uG g) (lK:g.length<1000000) (s:Int) (hs:s=1∨s = -1):∀ (n:Nat) (t:Tm) (x:Int×List (Int×Int)) (B:Int),t.size≤n→t.size<100000000→t.CV g→t.fit→0≤B→ri B x→B+1000000*t.size≤1000000000000000 →
  aq Tryz.prog (.fn 212 [] []) [.ptr 1 0, .ps 4 (syms g),t.aM, .int .i64 s] (qG x) (fun r σ'=>r = .dT []∧σ'=qG (tj g s t x))
 | 0,t,_,_,h,_,_,_,_,_,_=>by have:=po t;omega
 | n+1,t,x,B,hn,fJ,fD,hft,h0,hx,hB=>by
  unfold qG;refine aq.begin (rs:=[]) (m:=54) 1000 Tryz.func212 rfl rfl rfl rfl rfl ?_;have BR:=po t;have mO:=oZ t.args;obtain ⟨x1,x2,x3⟩:=hx;have hih:=GK fD;by_cases fX:t.head<0
  ·have sd:tj g s t x=(x.1+s,lM x.2 t.head s):=by cases t;rw [tj];exact if_pos fX
   have rh:IntKind.i64.wrap (x.1+s)=x.1+s:=dQ (by rcases hs with rfl | rfl<;>omega);have jg:=WN h0 x.2 t.head x3;have tf:IntKind.i64.wrap (gb x.2 t.head+s)=gb x.2 t.head+s:=dQ (by rcases hs with rfl | rfl<;>omega);rw [sd];simp only [go_sem,fL,fX,rh];refine aG.draw [.no, .no, .no, .no, .no, .no, .no, .no, .no,⟨none,[0],[]⟩] 3 3 mixed rfl rfl (by decide) ?_;simp only [go_sem,da,Yeq,Zxq,tf,Zwa];refine aG.go 1000 ?_;simp only [go_sem];rw [gC];exact ⟨qG (x.1+s,lM x.2 t.head s),by simp [qG,go_sem],by simp [qG],by simp [qG,go_sem,sL],trivial,rfl,rfl⟩
  ·simp only [go_sem,fL,fX];have XX:t.head.toNat<g.length:=by omega
   have OZ:=qS XX;have xj:n6 g t.head=(g[t.head.toNat]).weight:=by simp [n6,XX]
   have Yi:=RT hg t.head;have sd:tj g s t x=pk g s t.args (x.1+s*n6 g t.head,x.2):=by cases t;rw [tj];exact if_neg fX
   have rh:IntKind.i64.wrap (s*n6 g t.head)=s*n6 g t.head:=dQ (by rcases hs with rfl | rfl<;>omega);have tf:IntKind.i64.wrap (x.1+s*n6 g t.head)=x.1+s*n6 g t.head:=dQ (by rcases hs with rfl | rfl<;>omega);have Pu:ri (B+1000000) (x.1+s*n6 g t.head,x.2):=by
    refine ⟨?_,?_,fun y hy=>by have:=x3 y hy;omega⟩
    ·rcases hs with rfl | rfl<;>simp only<;>omega
    ·rcases hs with rfl | rfl<;>simp only<;>omega
   rw [sd];generalize zz:x.1+s*n6 g t.head=Ys at *
   refine aG.draw [.no, .no, .no, .no, .no, .no, .no, .no, .no, .no, .no, .no, .no, .no, .no,⟨none,[1],[]⟩] 3 3 mixed rfl rfl (by decide) ?_;simp only [go_sem,da,ld,OZ,pU,← xj,rh,zz,tf];refine ⟨⟨by omega,hih⟩,?_⟩;refine aG.go 1000 ?_;simp only [go_sem,aj];obtain ⟨F,hF⟩:∃ F,pk g s t.args (Ys,x.2)=F:=⟨_,rfl⟩;rw [hF];refine aG.cO (ι:={q:Nat×(Int×List (Int×Int)) // q.1≤t.args.length∧pk g s (t.args.drop q.1) q.2=F∧∃ C,0≤C∧ri C q.2∧C+1000000*Tm.bG (t.args.drop q.1)≤1000000000000000}) 1000
    (fun q=>fe 58 [(0, .ptr 1 0),(1, .ps 4 (syms g)),(3, .int .i64 s),(46, .ps 2 (t.args.map Tm.aM)),(47, .int .i64 t.args.length),(48, .int .i64 q.1.1)]) (fun q=>qG q.1.2) (fun q=>t.args.length - q.1.1)
    ⟨(0,(Ys,x.2)),by simp only [dH];exact ⟨au _,hF,B+1000000,by omega,Pu,by omega⟩⟩ ?_ (fun _=>by simp [qG]) ?_
   ·unfold qG;simp only [go_sem,dy,bW,sL]
   ·rintro ⟨⟨i,y⟩,hi,aN,C,XE,Oc,Oe⟩;simp only at hi aN Oc Oe;by_cases bA:(i:Int)<t.args.length
    ·have aU:i<t.args.length:=by omega
     have hw:IntKind.i64.wrap ((i:Int)+1)=((i+1:Nat):Int):=by rw [dQ (by omega)];omega
     have BF:(t.args.map Tm.aM).getD i .undef=t.args[i].aM:=mC aU;have jX:=aC aU;have hui:=MI (Qv fD) _ jX;have huf:=xF (yo hft) _ jX;have zx:=uD jX;rw [ao aU] at aN Oe;rw [pk] at aN;rw [Tm.bG] at Oe;generalize t.args[i]=u at *
     unfold qG;simp only [go_sem,bA,aj,BF,fL];refine ⟨by omega,?_⟩;rw [← cZ u];have hI:∀ b,b<2→b=0∨b=1:=fun b hb=>by omega
     have hL:bF 2 [ah.ptr 1 0, .ps 4 (syms g),u.aM, .int .i64 s]:=⟨cN 1,dy _,dG u,trivial,trivial⟩;refine aq.mK (Z:=qG y) (f:=.fn 212 [] []) (args:=[ah.ptr 1 0, .ps 4 (syms g),u.aM, .int .i64 s]) (fun b=>b) (fun b b' h1 h2 e=>e) (fun b hb=>Nat.lt_succ_of_lt hb) (fun b hb=>?_) (by simp [go_sem]) rfl hL (ry _ 2 (fun _ _=>rfl) _ hL) (by simp [qG,go_sem,sL]) (R0 g hg lK s hs n u y C (by omega) (by omega) hui huf XE Oc (by omega)) ?_
     ·rcases hI b hb with rfl | rfl
      ·refine ⟨_,rfl,?_⟩;simp [ef,cK (sL y.2).1,cK (sL y.2).2]
      ·exact ⟨_,rfl,rfl⟩
     rintro r Z' ⟨rfl,rfl⟩;refine ⟨by simp [qG],by simp [qG,go_sem,sL],trivial,?_⟩;have Od:=Iy hg hs u y C XE Oc;generalize tj g s u y=z at *
     simp only [go_sem,qG,ka,fK,nM,aK,aV,cK (sL z.2).1,cK (sL z.2).2];refine aG.go 1000 ?_;simp only [go_sem,hw];refine ⟨⟨(i+1,z),by simp only;omega,aN,C+1000000*u.size,by omega,Od,by simp only;omega⟩,?_,by simp only;omega⟩;simp only [go_sem,dy,bW,sL]
    ·have dZ:i=t.args.length:=by omega
     subst dZ;rw [aX,pk] at aN;subst aN;unfold qG;simp only [go_sem,bA];refine aG.go 1000 ?_;simp only [go_sem];rw [gC];exact ⟨qG y,by simp [qG,go_sem],by simp [qG],by simp [qG,go_sem,sL],trivial,rfl,rfl⟩
def uN (x:Int×List (Int×Int)) (n:Int):Int:=nj n ((x.2.map Prod.snd).any fun n=>decide (0<n)) ((x.2.map Prod.snd).any fun n=>decide (n<0))
def oC (g:List Sy) (t u:Tm):Int×List (Int×Int):=tj g (-1) u (tj g 1 t (0,[]))
mutual
def eG (g:List Sy):Tm→Tm→Int
 | .mk h ts,u=>if Tm.mk h ts=u then 0 else
  if (oC g (.mk h ts) u).1≠0 then uN (oC g (.mk h ts) u) (oC g (.mk h ts) u).1 else
  if h<0∨u.head<0 then 2 else if h≠u.head then uN (oC g (.mk h ts) u) (h - u.head) else g_ g (oC g (.mk h ts) u) ts u.args
def g_ (g:List Sy) (x:Int×List (Int×Int)):List Tm→List Tm→Int
 | [],_=>0
 | _ :: _,[]=>0
 | t :: ts,u :: us=>if eG g t u≠0 then (if eG g t u=2 then 2 else uN x (eG g t u)) else g_ g x ts us
end
def Bn (g:List Sy) (h:Int):Int:=((g[h.toNat]?).map Sy.arity).getD 0
mutual
def Tm.Dy (g:List Sy):Tm→Prop
 | .mk h ts=>(0≤h→(ts.length:Int)=Bn g h)∧Tm.yR g ts
def Tm.yR (g:List Sy):List Tm→Prop
 | []=>True
 | t :: ts=>t.Dy g∧Tm.yR g ts
end
theorem J4 {g:List Sy} {t:Tm} (h:t.Dy g) (h0 : 0≤t.head):(t.args.length:Int)=Bn g t.head:=by cases t;exact h.1 h0
theorem Yn6 {g:List Sy} {t:Tm} (h:t.Dy g):Tm.yR g t.args:=by cases t;exact h.2
theorem Qs {g:List Sy}:∀ {ts:List Tm},Tm.yR g ts→∀ t∈ts,t.Dy g
 | x :: ts,h,t,ht=>by
  rcases aQ.1 ht with rfl | ht
  ·exact h.1
  ·exact Qs h.2 t ht
def jQ (g:List Sy) (t:Tm):Prop:=t.size<100000000∧t.CV g∧t.Dy g∧t.fit
theorem MF {g:List Sy} {t u:Tm} (h:jQ g t) (hu:u∈t.args):jQ g u:=by
 have h1:=uD hu;have h2:=po t;exact ⟨by have:=h.1;omega,MI (Qv h.2.1) u hu,Qs (Yn6 h.2.2.1) u hu,xF (yo h.2.2.2) u hu⟩
theorem Sx (g:List Sy) (hg:uG g) (lK:g.length<1000000) (s:Int) (hs:s=1∨s = -1) (t:Tm) (x:Int×List (Int×Int)) (B:Int) (ht:jQ g t) (h0 : 0≤B) (hx:ri B x) (hB:B+1000000*t.size≤1000000000000000) (a0 a1:Option bO) {K:ah→ai→Prop}
  (hK:K (.dT []) [a0,a1,some (.map (kA (tj g s t x).2) (l8 (tj g s t x).2) false),some (.var [.int .i64 (tj g s t x).1, .map 2])]) :
  aq Tryz.prog (.fn 212 [] []) [.ptr 3 0, .ps 4 (syms g), .agg [.int .i64 t.head, .ps 2 (t.args.map Tm.aM)], .int .i64 s] [a0,a1,some (.map (kA x.2) (l8 x.2) false),some (.var [.int .i64 x.1, .map 2])] K:=by
 have hI:∀ b,b<2→b=0∨b=1:=fun b hb=>by omega
 have hL:bF 2 [ah.ptr 1 0, .ps 4 (syms g),t.aM, .int .i64 s]:=⟨cN 1,dy _,dG t,trivial,trivial⟩;rw [← cZ t];refine aq.mK (Z:=qG x) (f:=.fn 212 [] []) (args:=[ah.ptr 1 0, .ps 4 (syms g),t.aM, .int .i64 s]) (fun b=>b+2) (fun b b' h1 h2 e=>by omega) (fun b hb=>by have:b<2:=hb;simp;omega) (fun b hb=>?_) (by simp [go_sem]) rfl hL ?_ (by simp [qG,go_sem,sL]) (R0 g hg lK s hs t.size t x B (ae _) ht.1 ht.2.1 ht.2.2.2 h0 hx hB) ?_
 ·rcases hI b hb with rfl | rfl
  ·refine ⟨_,rfl,?_⟩;simp [ef,cK (sL x.2).1,cK (sL x.2).2]
  ·exact ⟨_,rfl,rfl⟩
 ·simp only [eK,ek,cK (dy _),Ba (M4 t),Nat.reduceAdd]
 rintro r Z' ⟨rfl,rfl⟩;refine ⟨by simp [qG],by simp [qG,go_sem,sL],trivial,?_⟩;generalize tj g s t x=z at *
 simp only [go_sem,qG,ka,fK,nM,aK,aV,cK (sL z.2).1,cK (sL z.2).2];exact hK
theorem MO (g:List Sy) (hg:uG g) (lK:g.length<1000000):∀ (n:Nat) (t u:Tm),t.size≤n→jQ g t→jQ g u→aD Tryz.prog 195 [.ps 4 (syms g),t.aM,u.aM] (.int .i64 (eG g t u))
 | 0,t,_,h,_,_=>by have:=po t;omega
 | n+1,t,u,hn,ht,hu=>by
  refine aD.begin (rs:=[.tmp 6]) (m:=82) 1000 Tryz.func195 rfl rfl rfl (by decide) trivial ?_;have gx:eG g t u=if t=u then 0 else if (oC g t u).1≠0 then uN (oC g t u) (oC g t u).1 else if t.head<0∨u.head<0 then 2 else if t.head≠u.head then uN (oC g t u) (t.head - u.head) else g_ g (oC g t u) t.args u.args:=by
   cases t;rw [eG];rfl
  simp only [go_sem,fL];refine aq.bS [] (Be t u (by have:=ht.1;omega) (by have:=hu.1;omega)) (by (try simp only [cZ]);exact cx _ _ _) (by simp [go_sem,dG,bW]) ?_;simp only [bC,bN,bL,if_true];refine aG.go 1000 ?_
  by_cases he:t=u
  ·rw [gx,if_pos he];simp only [go_sem,he]
  ·rw [if_neg he] at gx;simp only [go_sem,he];have Ye:=ht.1;have hu1:=hu.1;have Yk:ri 0 (0,[]):=⟨by simp,by simp,fun y hy=>by cases hy⟩;have Yl:=Iy hg (.inl rfl) t (0,[]) 0 (by omega) Yk;refine Sx g hg lK 1 (.inl rfl) t (0,[]) 0 ht (by omega) Yk (by omega) _ _ ?_;refine aG.go 1000 ?_;simp only [go_sem];refine Sx g hg lK (-1) (.inr rfl) u _ _ hu (by omega) Yl (by omega) _ _ ?_;have jA:=Iy hg (.inr rfl) u _ _ (by omega) Yl;have vB:∀ n,aD Tryz.prog 213 [.pp [.int .i64 (oC g t u).1, .pm (kA (oC g t u).2) (l8 (oC g t u).2)], .int .i64 n] (.int .i64 (uN (oC g t u) n)):=fun n=>Yt5 _ n _ _ (by simp [kA,ints]) (sL _).1;rw [show tj g (-1) u (tj g 1 t (0,[]))=oC g t u from rfl] at jA ⊢
   generalize oC g t u=x at *
   refine aG.Hf (q:=2) (b:=3) rfl rfl (by decide) ?_;refine aG.go 1000 ?_;have vp:qf 2 (kA x.2) (l8 x.2) t.aM=t.aM:=by rw [cZ];rfl
   have pH:qf 2 (kA x.2) (l8 x.2) u.aM=u.aM:=by rw [cZ];rfl
   by_cases h1:x.1=0
   ·rw [if_neg (by simp [h1])] at gx;rw [h1] at vB;by_cases c1:t.head<0
    ·rw [if_pos (.inl c1)] at gx;rw [gx];simp only [go_sem,aK,aV,h1,vp,pH,c1]
    ·by_cases c2:u.head<0
     ·rw [if_pos (.inr c2)] at gx;rw [gx];simp only [go_sem,aK,aV,h1,vp,pH,c1,c2]
     ·rw [if_neg (by simp [c1,c2])] at gx;have i1:=GK ht.2.1;have i2:=GK hu.2.1;by_cases c3:t.head=u.head
      ·rw [if_neg (by simp [c3])] at gx;have G8:¬ u.head<0:=c2;simp only [go_sem,aK,aV,h1,vp,pH,c3,G8,aj];have hlen:t.args.length=u.args.length:=by
        have l1:=J4 ht.2.2.1 (by omega);have l2:=J4 hu.2.2.1 (by omega);rw [c3,← l2] at l1;omega
       have mO:=oZ t.args;have BR:=po t;refine aG.cO (ι:={i:Nat // i≤t.args.length∧g_ g x (t.args.drop i) (u.args.drop i)=eG g t u}) 1000
        (fun q=>fe 85 [(0, .ps 4 (syms g)),(4, .ptr 0 0),(5, .ptr 1 0),(6, .int .i64 0),(7, .ptr 3 0),(25, .ps 2 (t.args.map Tm.aM)),(26, .int .i64 t.args.length),(27, .int .i64 q.1)])
        (fun _=>[some (.var [.int .i64 u.head, .ps 2 (t.args.map Tm.aM)]),some (.var [.int .i64 u.head, .ps 2 (u.args.map Tm.aM)]),none,some (.var [.int .i64 0, .pm (kA x.2) (l8 x.2)])]) (fun q=>t.args.length - q.1) ⟨0,by simp [gx]⟩ ?_ (fun _=>au _) ?_
       ·simp only [go_sem,dy,bW,sL]
       ·rintro ⟨i,hi,aN⟩;by_cases bA:(i:Int)<t.args.length
        ·have aU:i<t.args.length:=by omega
         have Kr:i<u.args.length:=by omega
         have hw:IntKind.i64.wrap ((i:Int)+1)=((i+1:Nat):Int):=by rw [dQ (by omega)];omega
         have sQ:(t.args.map Tm.aM).getD i .undef=t.args[i].aM:=mC aU;have v8:(u.args.map Tm.aM).getD i .undef=u.args[i].aM:=mC Kr;have xg:=aC aU;have o1:=MF ht xg;have o2:=MF hu (aC Kr);have sn:=uD xg;have uk:=MO g hg lK n t.args[i] u.args[i] (by omega) o1 o2;rw [ao aU,ao Kr,g_] at aN;generalize t.args[i]=y at *
         generalize u.args[i]=z at *
         generalize eG g y z=r at *
         have hlI:(i:Int)<u.args.length:=by omega
         simp only [go_sem,bA];refine aG.draw [] 4 4 mixed rfl rfl (by decide) ?_;simp only [go_sem,da,aj,sQ,v8,fL];refine ⟨⟨by omega,bA⟩,⟨by omega,hlI⟩,?_⟩;refine kG uk (by simp only [cZ,bn,bu];exact cx _ _ _) (by simp [go_sem,dG,dy]) ?_;simp only [go_sem];by_cases r0:r=0
         ·rw [if_neg (by simp [r0])] at aN;refine aG.go 1000 ?_;simp only [go_sem,r0,hw];refine ⟨⟨i+1,by omega,aN⟩,?_,by simp only;omega⟩;simp only [go_sem,dy,bW,sL]
         ·rw [if_pos r0] at aN;by_cases r2:r=2
          ·rw [if_pos r2] at aN;refine aG.go 1000 ?_;simp only [go_sem,r0,r2];refine aG.go 1000 ?_;simp only [go_sem,← aN]
          ·rw [if_neg r2] at aN;refine aG.go 1000 ?_;simp only [go_sem,r0,r2];refine aq.uq (b:=3) (cs:=[.int .i64 0, .pm (kA x.2) (l8 x.2)]) [] rfl (vB r) ?_ ?_ rfl ?_
           ·exact cx _ _ _
           ·simp [go_sem,sL]
           refine aG.go 1000 ?_;simp only [go_sem];refine aG.go 1000 ?_;simp only [go_sem,← aN]
        ·have dZ:i=t.args.length:=by omega
         subst dZ;rw [aX,g_] at aN;simp only [go_sem,bA];refine aG.go 1000 ?_;simp only [go_sem,← aN]
      ·rw [if_pos c3] at gx;have hw:IntKind.i64.wrap (t.head - u.head)=t.head - u.head:=dQ (by omega);simp only [go_sem,aK,aV,h1,vp,pH,c1,c2,c3,hw];refine aq.uq (b:=3) (cs:=[.int .i64 0, .pm (kA x.2) (l8 x.2)]) [] rfl (vB (t.head - u.head)) ?_ ?_ rfl ?_
       ·exact cx _ _ _
       ·simp [go_sem,sL]
       refine aG.go 1000 ?_;simp only [go_sem,gx]
   ·rw [if_pos h1] at gx;simp only [go_sem,aK,aV,h1,vp,pH];refine aq.uq (b:=3) (cs:=[.int .i64 x.1, .pm (kA x.2) (l8 x.2)]) [] rfl (vB x.1) ?_ ?_ rfl ?_
    ·exact cx _ _ _
    ·simp [go_sem,sL]
    refine aG.go 1000 ?_;simp only [go_sem,gx]
def fc (g:List Sy):List Tm→Int
 | []=>0
 | t :: ts=>if t.term g=0 then fc g ts else t.term g
theorem V7 (g:List Sy) (ts:List Tm) (hl:ts.length<100000000) (ht:∀ t∈ts,t.size<99999999):aD Tryz.prog 194 [.ps 4 (syms g), .ps 2 (ts.map Tm.aM)] (.int .i64 (fc g ts)):=by
 refine aD.begin (rs:=[.tmp 4]) (m:=19) 1000 Tryz.func194 rfl rfl rfl (by decide) trivial ?_;simp only [go_sem,aj];refine aG.cO (ι:={i:Nat // i≤ts.length∧fc g (ts.drop i)=fc g ts}) 1000 (fun q=>fe 21 [(0, .ps 4 (syms g)),(4, .int .i64 0),(8, .ps 2 (ts.map Tm.aM)),(9, .int .i64 ts.length),(10, .int .i64 q.1)])
  (fun _=>[]) (fun q=>ts.length - q.1) ⟨0,by simp⟩ ?_ (fun _=>au _) ?_
 ·simp only [go_sem,dy,bW]
 ·rintro ⟨i,hi,aN⟩;by_cases bA:(i:Int)<ts.length
  ·have aU:i<ts.length:=by omega
   have hw:IntKind.i64.wrap ((i:Int)+1)=((i+1:Nat):Int):=by rw [dQ (by omega)];omega
   have sQ:(ts.map Tm.aM).getD i .undef=ts[i].aM:=mC aU;have hm:=ht _ (aC aU);have htw:=MJ g ts[i] (by omega);rw [ao aU,fc] at aN;generalize ts[i]=t at *
   simp only [go_sem,bA,aj,sQ,fL];refine ⟨by omega,?_⟩;refine aq.bS [] (htw) (by (try simp only [cZ]);exact cx _ _ _) (by simp [go_sem,dG,bW,dy]) ?_;simp only [bC,bN,bL,if_true];refine aG.go 1000 ?_
   by_cases h:t.term g=0
   ·rw [if_pos h] at aN;simp only [go_sem,h,hw];refine ⟨⟨i+1,by omega,aN⟩,?_,by simp only;omega⟩;simp only [go_sem,dy,bW]
   ·rw [if_neg h] at aN;simp only [go_sem,h];refine aG.go 1000 ?_;simp only [go_sem,aN]
  ·have dZ:i=ts.length:=by omega
   subst dZ;rw [aX,fc] at aN;simp only [go_sem,bA];refine aG.go 1000 ?_;simp only [go_sem,← aN]
theorem Zvx (g:List Sy) (hg:uG g) (lK:g.length<1000000) (t u:Tm) (ht:t.size<99999999) (hu:u.size<99999999) (jA:fc g [t,u]=0→jQ g t∧jQ g u) :
  aD Tryz.prog 171 [.ps 4 (syms g),t.aM,u.aM] (.dT [.int .i64 (if fc g [t,u]=0 then eG g t u else 0), .int .i64 (fc g [t,u])]):=by
 refine aD.begin (rs:=[.tmp 6, .tmp 7]) (m:=18) 1000 Tryz.func171 rfl rfl rfl (by decide) ⟨trivial,trivial,trivial⟩ ?_;have hw:=V7 g [t,u] (by simp) (fun y hy=>by simp at hy;rcases hy with rfl | rfl<;>assumption);simp only [go_sem,fL];refine aq.bS [2] hw ?_ (by simp [go_sem,dG,dy]) ?_
 ·simp only [go_sem,cZ,aK,aV]
 simp only [bC,bN,bL,if_true];refine aG.go 1000 ?_;by_cases h:fc g [t,u]=0
 ·obtain ⟨o1,o2⟩:=jA h;rw [if_pos h];simp only [go_sem,h];refine aq.bS [] (MO g hg lK t.size t u (ae _) o1 o2) (by (try simp only [cZ]);exact cx _ _ _) (by simp [go_sem,dG,bW,dy]) ?_;simp only [bC,bN,bL,if_true];refine aG.go 1000 ?_
  simp only [go_sem]
 ·rw [if_neg h];simp only [go_sem,h]
def yE (l:Li):Prop:=l.l.size<999999999∧l.r.size<999999999
def mM (a b:Li):Bool:=(decide (a.l=b.l)&&decide (a.r=b.r))||(decide (a.l=b.r)&&decide (a.r=b.l))
theorem VR (a b:Li) (ha:yE a) (hb:yE b):aD Tryz.prog 102 [a.aM,b.aM] (.bool (mM a b)):=by
 refine aD.begin (rs:=[.tmp 4]) (m:=29) 1000 Tryz.func102 rfl rfl rfl (by decide) trivial ?_;obtain ⟨a1,a2⟩:=ha;obtain ⟨b1,b2⟩:=hb;have s1:=Be a.l b.l (by omega) (by omega);have s2:=Be a.r b.r (by omega) (by omega);have s3:=Be a.l b.r (by omega) (by omega);have s4:=Be a.r b.l (by omega) (by omega);unfold mM;generalize decide (a.l=b.l)=p1 at *
 generalize decide (a.r=b.r)=p2 at *
 generalize decide (a.l=b.r)=p3 at *
 generalize decide (a.r=b.l)=p4 at *
 simp only [go_sem,kH];refine aq.bS [] (s1) (by (try simp only [cZ]);exact cx _ _ _) (by simp [go_sem,dG,bW]) ?_;simp only [bC,bN,bL,if_true];refine aG.go 1000 ?_
 cases p1
 ·simp only [go_sem];refine aq.bS [] (s3) (by (try simp only [cZ]);exact cx _ _ _) (by simp [go_sem,dG,bW]) ?_;simp only [bC,bN,bL,if_true];refine aG.go 1000 ?_
  cases p3
  ·simp only [go_sem,cE,oW]
  ·simp only [go_sem];refine aq.bS [] (s4) (by (try simp only [cZ]);exact cx _ _ _) (by simp [go_sem,dG,bW]) ?_;simp only [bC,bN,bL,if_true];refine aG.go 1000 ?_
   simp only [go_sem,cE,dk,cG]
 ·simp only [go_sem];refine aq.bS [] (s2) (by (try simp only [cZ]);exact cx _ _ _) (by simp [go_sem,dG,bW]) ?_;simp only [bC,bN,bL,if_true];refine aG.go 1000 ?_
  cases p2
  ·simp only [go_sem];refine aq.bS [] (s3) (by (try simp only [cZ]);exact cx _ _ _) (by simp [go_sem,dG,bW]) ?_;simp only [bC,bN,bL,if_true];refine aG.go 1000 ?_
   cases p3
   ·simp only [go_sem,cE,iD,oW]
   ·simp only [go_sem];refine aq.bS [] (s4) (by (try simp only [cZ]);exact cx _ _ _) (by simp [go_sem,dG,bW]) ?_;simp only [bC,bN,bL,if_true];refine aG.go 1000 ?_
    simp only [go_sem,iD,dk,cG]
  ·simp only [go_sem,oU,fM]
theorem WV (a b:Li) (ha:yE a) (hb:yE b):aD Tryz.prog 65 [a.aM,b.aM] (.bool (decide (a.neg=b.neg)&&mM a b)):=by
 refine aD.begin (rs:=[.tmp 4]) (m:=13) 1000 Tryz.func65 rfl rfl rfl (by decide) trivial ?_;have h:=VR a b ha hb;simp only [go_sem,kH];have hd:decide (a.neg=b.neg)=(a.neg==b.neg):=rfl;rw [hd];cases c:a.neg==b.neg
 ·simp only [go_sem,c,cE]
 ·simp only [go_sem,c];refine aq.bS [] h (cx _ _ _) ⟨nt _,nt _,trivial⟩ ?_;simp only [bC,bN,bL,if_true];refine aG.go 1000 ?_;simp only [go_sem,cG]
def l7 (l:Li):List Tm:=if l.neg then [l.l,l.l,l.r,l.r] else [l.l,l.r]
theorem Rm (l:Li):aD Tryz.prog 216 [l.aM] (.ps 2 ((l7 l).map Tm.aM)):=by
 refine aD.begin (rs:=[.tmp 2]) (m:=18) 1000 Tryz.func216 rfl rfl rfl (by decide) (bW _) ?_;unfold l7;cases h:l.neg
 ·simp only [go_sem,kH,h,bd,if_false,aK,aV];rw [cZ l.l,cZ l.r];exact ⟨xa _ _ _,xa _ _ _⟩
 ·simp only [go_sem,kH,h,if_true,aK,aV];rw [cZ l.l,cZ l.r]
  repeat (first | exact xa _ _ _ | exact cx _ _ _ | refine ⟨xa _ _ _,?_⟩)
def p9 (l:List Tm) (i:Nat):List Tm:=l.take i++l.drop (i+1)
def eI:List Tm→List Tm→List Tm
 | [],_=>[]
 | t :: a,b=>if ei (fun x=>decide (t=x)) b 0<0 then t :: eI a b else eI a (p9 b (ei (fun x=>decide (t=x)) b 0).toNat)
theorem Zxr (l:List Tm) (hl:l.length≤1000000000):aq Tryz.prog (.fn 200 [] []) [.ps 2 (l.map Tm.aM)] [] (fun r σ'=>(r = .os 1 0 l.length 2∧σ'=[none,some (.row (l.map Tm.aM) 0)])∨(l=[]∧r = .aW∧σ'=[])):=by
 by_cases h:l=[]
 ·subst h;refine (cg.v Zvh).mono ?_;rintro r σ' (⟨rfl,rfl⟩ | ⟨rfl,rfl⟩)
  ·exact .inr ⟨rfl,rfl,rfl⟩
  ·exact .inl ⟨rfl,rfl⟩
 ·refine (cg.v (Gg l h hl).1).mono ?_;rintro r σ' ⟨rfl,rfl⟩;exact .inl ⟨rfl,rfl⟩
theorem Yk0 (σ:ai) (b:Nat) (t x:Tm) (hb:bP σ b=some (.var [.int .i64 t.head, .ps 2 (t.args.map Tm.aM)])) (hs:bD σ.length σ) (ht:t.size<999999999) (hx:x.size<999999999) :
  aq Tryz.prog (.fn 240 [] [.ptr b 0]) [x.aM] σ (fun r σ'=>r = .bool (decide (t=x))∧σ' = σ):=by
 have h:aD Tryz.prog 240 [x.aM, .pp [.int .i64 t.head, .ps 2 (t.args.map Tm.aM)]] (.bool (decide (t=x))):=by
  refine aD.begin (rs:=[.tmp 3]) (m:=5) 1000 Tryz.func240 rfl rfl rfl (by decide) trivial ?_;simp only [go_sem,fL];refine aq.bS [] (Be t x (by omega) (by omega)) (by (try simp only [cZ]);exact cx _ _ _) (by simp [go_sem,dG,bW]) ?_;simp only [bC,bN,bL,if_true];refine aG.go 1000 ?_
  simp only [go_sem]
 refine aq.uq (b:=b) (cs:=[.int .i64 t.head, .ps 2 (t.args.map Tm.aM)]) [] hb h ?_ ⟨dG x,⟨trivial,bW _,trivial⟩,trivial⟩ rfl ⟨rfl,rfl⟩;have h1:uF b [.int .i64 t.head, .ps 2 (t.args.map Tm.aM)] x.aM=x.aM:=by rw [cZ];rfl
 have h2:uF b [.int .i64 t.head, .ps 2 (t.args.map Tm.aM)] (.ptr b 0) = .pp [.int .i64 t.head, .ps 2 (t.args.map Tm.aM)]:=by simp [uF,yY]
 simp only [bn,bp,aK,aV,h1,h2];exact cx _ _ _
theorem WH (a b:List Tm) (ha:a.length<1000000) (hb:b.length<1000000) (BR:∀ t∈a,t.size<99999999) (uK:∀ t∈b,t.size<99999999):aD Tryz.prog 230 [.ps 2 (a.map Tm.aM), .ps 2 (b.map Tm.aM)] (.ps 2 ((eI a b).map Tm.aM)):=by
 refine aD.begin (rs:=[.tmp 4]) (m:=32) 1000 Tryz.func230 rfl rfl rfl (by decide) (bW _) ?_;simp only [go_sem];refine (Zxr b (by omega)).mono ?_;rintro r σ' (⟨rfl,rfl⟩ | ⟨rfl,rfl,rfl⟩)
 ·refine aG.go 1000 ?_;simp only [go_sem,aj];refine aG.gf (ι:={q:Nat×List Tm×List Tm // q.1≤a.length∧q.2.1++eI (a.drop q.1) q.2.2=eI a b∧q.2.1.length≤q.1∧q.2.2.length≤b.length∧∀ x∈q.2.2,x.size<99999999}) 1000
   (fun q=>fe 34 [(4, .aW),(5, .os 1 0 q.1.2.2.length 2),(6,jk 2 2 (q.1.2.1.map Tm.aM)),(12, .ps 2 (a.map Tm.aM)),(13, .int .i64 a.length),(14, .int .i64 q.1.1)])
   (fun q=>[none,some (.row (q.1.2.2.map Tm.aM) 0),fx (q.1.2.1.map Tm.aM)]) (fun q=>a.length - q.1.1) ⟨(0,[],b),by simpa using uK⟩ [] ?_ (fun _=>au _) ?_
  ·refine iz rfl ?_;simp only [go_sem,bW,cK (bW _),aV,s_,sM]
  ·rintro ⟨⟨i,L,c⟩,hi,aN,Bx,ig,ug⟩;simp only at hi aN Bx ig ug;by_cases bA:(i:Int)<a.length
   ·have aU:i<a.length:=by omega
    have hw:IntKind.i64.wrap ((i:Int)+1)=((i+1:Nat):Int):=by rw [dQ (by omega)];omega
    have sQ:(a.map Tm.aM).getD i .undef=a[i].aM:=mC aU;have sT:=BR _ (aC aU);rw [ao aU,eI] at aN;generalize a[i]=t at *
    simp only [go_sem,bA,aj,sQ,fL];refine ⟨by omega,?_⟩;refine (Zxe _ (.fn 240 [] [.ptr 3 0]) (fun x=>decide (t=x)) c rfl (by omega) ?_ ?_ (fun j hj=>Yk0 _ 3 t c[j] rfl ?_ (by omega) (by have:=ug _ (aC hj);omega))).mono ?_
    ·simp only [go_sem,bW]
    ·simp only [go_sem]
    ·simp only [go_sem,bW]
    rintro r σ' ⟨rfl,rfl⟩;rcases I3 (fun x=>decide (t=x)) c 0 (by omega) with ⟨q1,_⟩ | ⟨k,q1,q2,_⟩
    ·rw [q1] at aN ⊢;rw [if_pos (by omega)] at aN;refine aG.go 1000 ?_;simp only [go_sem,Int.reduceNeg,Int.reduceLT];have h2:bP [none,some (bO.row (c.map Tm.aM) 0),fx (L.map Tm.aM),some (bO.var [.int .i64 t.head, .ps 2 (t.args.map Tm.aM)]),some (bO.row [.agg [.int .i64 t.head, .ps 2 (t.args.map Tm.aM)]] 0)] 2=fx (L.map Tm.aM):=rfl;have nO:=of_eq_true (Dk [t]);rw [show [t].map Tm.aM=[t.aM] from rfl,cZ t] at nO
     simp only [go_sem,vX h2,nO,aj,hw];refine ⟨by omega,⟨(i+1,L++[t],c),by simp only;omega,by rw [← aN];simp,by simp only [az,ax,aS];omega,ig,ug⟩,[(2,5),(5,2)],iz rfl ?_,by simp only;omega⟩;have lw:bF 0 ((L++[t]).map Tm.aM):=bW _;dsimp only
     rw [cY] at lw ⊢;rw [wo (by simp),wm (by simp)];simp only [aK,aV,cZ t] at lw;simp only [go_sem,bW,cK (bW _),cK lw,iO (au 3) lw,aj,ax,aS,aK,aV,cZ t]
    ·have D9:(0:Int)+k=k:=by omega
     rw [q2,D9] at aN ⊢;rw [if_neg (by omega),aR] at aN;have Po:¬ (k:Int)<0:=by omega
     have FY:IntKind.i64.wrap ((k:Int)+1)=((k+1:Nat):Int):=by rw [dQ (by omega)];omega
     refine aG.go 1000 ?_;simp only [go_sem,Po,FY];refine aq.Bo (f:=.fn 241 [] []) (args:=[.os 0 0 c.length 2, .int .i64 k, .int .i64 ((k+1:Nat):Int)]) (B:=.row (c.map Tm.aM) 0) 1 rfl (bW _) ⟨trivial,trivial⟩ ⟨a_,trivial,trivial,trivial⟩ ((Ydg c k q1 (by omega)).mono ?_);rintro r σ' ⟨rfl,rfl⟩;refine ⟨a_,_,rfl,bW _,?_⟩;have za:(p9 c k).length=c.length - 1:=by simp only [p9,az,cA,cz];omega
     rw [show c.take k++c.drop (k+1)=p9 c k from rfl,← za]
     simp only [go_sem,cW,dc];refine aG.go 1000 ?_;simp only [go_sem,hw];refine ⟨⟨(i+1,L,p9 c k),by simp only;omega,aN,by simp only;omega,by simp only;omega,fun x hx=>?_⟩,[],iz rfl ?_,by simp only;omega⟩
     ·rcases aY.1 hx with hx | hx
      ·exact ug x (jF hx)
      ·exact ug x (List.mem_of_mem_drop hx)
     simp only [go_sem,bW,cK (bW _),Jl (bW L)]
   ·have dZ:i=a.length:=by omega
    subst dZ;rw [aX,eI,bu] at aN;simp only [go_sem,bA];refine aG.go 1000 ?_;simp only [go_sem];rw [← aN,rO rfl rfl];trivial
 ·refine aG.go 1000 ?_;simp only [go_sem,aj];refine aG.gf (ι:={q:Nat×List Tm // q.1≤a.length∧q.2++eI (a.drop q.1) []=eI a []∧q.2.length≤q.1}) 1000
   (fun q=>fe 34 [(4, .aW),(5, .aW),(6,jk 0 2 (q.1.2.map Tm.aM)),(12, .ps 2 (a.map Tm.aM)),(13, .int .i64 a.length),(14, .int .i64 q.1.1)])
   (fun q=>[fx (q.1.2.map Tm.aM)]) (fun q=>a.length - q.1.1) ⟨(0,[]),by simp⟩ [] ?_ (fun _=>au _) ?_
  ·refine iz rfl ?_;simp only [go_sem,bW,cK (bW _),aV,s_,sM]
  ·rintro ⟨⟨i,L⟩,hi,aN,Bx⟩;simp only at hi aN Bx;by_cases bA:(i:Int)<a.length
   ·have aU:i<a.length:=by omega
    have hw:IntKind.i64.wrap ((i:Int)+1)=((i+1:Nat):Int):=by rw [dQ (by omega)];omega
    have sQ:(a.map Tm.aM).getD i .undef=a[i].aM:=mC aU;have sT:=BR _ (aC aU);rw [ao aU,eI,if_pos (by simp [ei])] at aN;generalize a[i]=t at *
    simp only [go_sem,bA,aj,sQ,fL];refine ⟨by omega,?_⟩;refine aq.N1 (args':=[.ps 2 (([]:List Tm).map Tm.aM), .fn 240 [] [.ptr 1 0]]) ?_ ?_
    ·simp only [go_sem,aV]
    refine (Ut _ (.fn 240 [] [.ptr 1 0]) (fun x=>decide (t=x)) [] (by simp) ?_ ?_ (fun j hj=>by simp at hj)).mono ?_
    ·simp only [go_sem,bW]
    ·simp only [go_sem]
    rintro r σ' ⟨rfl,rfl⟩;rw [show ei (fun x=>decide (t=x)) [] 0 = -1 from rfl]
    refine aG.go 1000 ?_;simp only [go_sem,Int.reduceNeg,Int.reduceLT];have h2:bP [fx (L.map Tm.aM),some (bO.var [.int .i64 t.head, .ps 2 (t.args.map Tm.aM)]),some (bO.row [.agg [.int .i64 t.head, .ps 2 (t.args.map Tm.aM)]] 0)] 0=fx (L.map Tm.aM):=rfl;have nO:=of_eq_true (Dk [t]);rw [show [t].map Tm.aM=[t.aM] from rfl,cZ t] at nO
    simp only [go_sem,vX h2,nO,aj,hw];refine ⟨by omega,⟨(i+1,L++[t]),by simp only;omega,by rw [← aN];simp,by simp only [az,ax,aS];omega⟩,[(0,3),(3,0)],iz rfl ?_,by simp only;omega⟩;have lw:bF 0 ((L++[t]).map Tm.aM):=bW _;dsimp only
    rw [cY] at lw ⊢;rw [wo (by simp),wm (by simp)];simp only [aK,aV,cZ t] at lw;simp only [go_sem,bW,cK (bW _),cK lw,iO (au 1) lw,aj,ax,aS,aK,aV,cZ t]
   ·have dZ:i=a.length:=by omega
    subst dZ;rw [aX,eI,bu] at aN;simp only [go_sem,bA];refine aG.go 1000 ?_;simp only [go_sem];rw [← aN,rO rfl rfl];trivial
def uY (g:List Sy) (a:List Tm) (y:Tm):Bool:=a.any fun x=>decide (eG g x y=1)
def ni (g:List Sy) (a b:List Tm):Bool:=decide (0<a.length) && !(b.any fun y=>!uY g a y)
def uz (t:Tm):Option bO:=some (.var [.int .i64 t.head, .ps 2 (t.args.map Tm.aM)])
def pM (g:List Sy) (a:List Tm):ai:=[some (.var [.ps 4 (syms g)]),some (.var [.ps 2 (a.map Tm.aM)]),some (.var [.fn 242 [] [.ptr 1 0, .ptr 0 0]])]
theorem Yie (g:List Sy) (hg:uG g) (lK:g.length<1000000) (a:List Tm) (x y:Tm) (hx:jQ g x) (hy:jQ g y) :
  aq Tryz.prog (.fn 243 [] [.ptr 0 0, .ptr 4 0]) [x.aM] (pM g a++[uz y,uz y]) (fun r σ'=>r = .bool (decide (eG g x y=1))∧σ'=pM g a++[uz y,uz y]):=by
 unfold pM uz;refine aq.begin (rs:=[.tmp 4]) (m:=7) 1000 Tryz.func243 rfl rfl rfl rfl rfl ?_;have hs:=MO g hg lK x.size x y (ae _) hx hy;simp only [go_sem,fL,bp,bn];refine aq.bS [] hs (by simp only [cZ,bp,bn,bu];exact cx _ _ _) (by simp [go_sem,dG,dy]) ?_;simp only [bC,bN,bL,if_true];refine aG.go 1000 ?_;simp only [go_sem];rw [gC];exact ⟨pM g a++[uz y,uz y],by simp [pM,uz,go_sem],by simp [pM],by simp [pM,uz,go_sem,dy,bW],trivial,rfl,rfl⟩
theorem J0 (g:List Sy) (a:List Tm) (l:List Tm) {n:Nat} (hn:n=3+l.length):bD n (pM g a++l.map uz):=by
 subst hn;refine pS ?_ ?_
 ·refine oe (b9 3 _) ?_;simp [pM,go_sem,dy,bW]
 ·induction l with
  | nil=>trivial
  | cons x l ih=>exact ⟨⟨trivial,bW _,trivial⟩,oe (by simp) ih⟩
theorem Yo9 (g:List Sy) (hg:uG g) (lK:g.length<1000000) (a:List Tm) (y:Tm) (ha:∀ x∈a,jQ g x) (mO:a.length<1000000) (hy:jQ g y) :
  aq Tryz.prog (.fn 242 [] [.ptr 1 0, .ptr 0 0]) [y.aM] (pM g a++[uz y]) (fun r σ'=>r = .bool (uY g a y)∧σ'=pM g a++[uz y]):=by
 refine aq.begin (rs:=[.tmp 4]) (m:=5) 1000 Tryz.func242 rfl rfl rfl rfl rfl ?_;have hc:=Lb (pM g a++[uz y,uz y]) (.fn 243 [] [.ptr 0 0, .ptr 4 0]) (fun x=>decide (eG g x y=1)) a (by omega) (J0 g a [y,y] rfl) (by simp [pM,go_sem]) (fun i h=>Yie g hg lK a a[i] y (ha _ (aC h)) hy);unfold pM uz at hc ⊢;simp only [go_sem,fL,bp,bn];refine hc.mono ?_;rintro r σ' ⟨rfl,rfl⟩;refine aG.go 1000 ?_;simp only [go_sem,bp,bn];rw [gC];exact ⟨pM g a++[uz y],by simp [pM,uz,go_sem],by simp [pM],J0 g a [y] rfl,trivial,rfl,rfl⟩
theorem Ype (g:List Sy) (hg:uG g) (lK:g.length<1000000) (a:List Tm) (y:Tm) (ha:∀ x∈a,jQ g x) (mO:a.length<1000000) (hy:jQ g y) :
  aq Tryz.prog (.fn 244 [] [.ptr 2 0]) [y.aM] (pM g a) (fun r σ'=>r = .bool (!uY g a y)∧σ'=pM g a):=by
 refine aq.begin (rs:=[.tmp 3]) (m:=6) 1000 Tryz.func244 rfl rfl rfl rfl rfl ?_;have hc:=Yo9 g hg lK a y ha mO hy;rw [cZ y] at hc;unfold pM uz at hc;unfold pM;simp only [go_sem,fL,bp,bn];refine hc.mono ?_;rintro r σ' ⟨rfl,rfl⟩;refine aG.go 1000 ?_;simp only [go_sem,bp,bn];rw [gC];exact ⟨pM g a,by simp [pM,uz,go_sem],by simp [pM],(show bD 3 (pM g a) by simpa using J0 g a [] rfl),trivial,rfl,rfl⟩
theorem Xe (g:List Sy) (hg:uG g) (lK:g.length<1000000) (a b:List Tm) (ha:∀ x∈a,jQ g x) (hb:∀ x∈b,jQ g x) (mO:a.length<1000000) (xc:b.length<1000000) :
  aD Tryz.prog 231 [.ps 4 (syms g), .ps 2 (a.map Tm.aM), .ps 2 (b.map Tm.aM)] (.bool (ni g a b)):=by
 refine aD.begin (rs:=[.tmp 6]) (m:=15) 1000 Tryz.func231 rfl rfl rfl (by decide) trivial ?_;have hc:=Lb (pM g a) (.fn 244 [] [.ptr 2 0]) (fun y=>!uY g a y) b (by omega) (show bD 3 (pM g a) by simpa using J0 g a [] rfl) (by simp [pM,go_sem]) (fun i h=>Ype g hg lK a b[i] ha mO (hb _ (aC h)));unfold pM at hc;by_cases h:(0:Int)<a.length
 ·have h' : 0<a.length:=by omega
  simp only [go_sem,aj,h];refine hc.mono ?_;rintro r σ' ⟨rfl,rfl⟩;refine aG.go 1000 ?_;simp only [go_sem,ni,h',decide_true,cG]
 ·have h':¬ 0<a.length:=by omega
  simp only [go_sem,aj,h,ni,h',decide_false,cE]
theorem Yek (n:Nat) (hn:n<10000000):aq Tryz.prog (.fn 239 [] []) [.aW, .int .i64 n] [] (fun r σ'=>(n=0∧r = .aW∧σ'=[])∨∃ J,bF 0 J∧r = .os 0 0 0 2∧σ'=[some (.row J 0)]):=by
 refine aq.begin (rs:=[.tmp 4]) (m:=25) 1000 Tryz.func239 rfl rfl rfl rfl rfl ?_;have h1:¬ (n:Int)<0:=by omega
 have hw:IntKind.i64.wrap (n:Int)=n:=dQ (by omega);have Yh:IntKind.i64.wrap 0=0:=dQ (by omega);by_cases h:(0:Int)<n
 ·have h2:¬ n=0:=by omega
  have h3:n≤6000000000000:=by omega
  have hz:eW ⟨2,true,32,[.int .i64 0, .aW], .struct⟩ (List.replicate n (.agg [.int .i64 0, .aW])):=⟨fun x hx=>by rw [(List.mem_replicate.1 hx).2];exact ⟨rfl,rfl⟩,by decide,by decide,rfl⟩;simp only [go_sem,h1,hw,Yh,h,hz,bB,h2,h3];have hJ:∀ k m,bF k (List.replicate m (ah.agg [.int .i64 0, .aW])):=fun k m=>by
   induction m with
   | zero=>trivial
   | succ m ih=>rw [fZ];exact ⟨⟨trivial,trivial,trivial⟩,ih⟩
  refine ⟨⟨by omega,by omega⟩,by omega,?_⟩;rw [gC];exact ⟨_,f_ _,au _,⟨hJ _ _,trivial⟩,a_,_,hJ _ _,rfl,rfl⟩
 ·simp only [go_sem,h1,hw,Yh,h];rw [gC];exact ⟨[],trivial,ae _,trivial,trivial, .inl ⟨by omega,rfl,rfl⟩⟩
def G_ (a b:List Tm):Nat→Nat
 | 0=>0
 | 1=>a.length
 | _=>a.length+b.length
def DG (a b:List Tm) (J:List ah):Nat→List ah
 | 0=>J
 | 1=>a.map Tm.aM
 | _=>(a++b).map Tm.aM
theorem Zwq (a b:List Tm) (ha:a.length<1000000) (hb:b.length<1000000):aD Tryz.prog 229 [.ps 1 [.ps 2 (a.map Tm.aM), .ps 2 (b.map Tm.aM)]] (.ps 2 ((a++b).map Tm.aM)):=by
 refine aD.begin (rs:=[.tmp 2]) (m:=35) 1000 Tryz.func229 rfl rfl rfl (by decide) (bW _) ?_;have c0:G_ a b 0=0:=rfl;have c1:G_ a b 1=a.length:=rfl;have c2:G_ a b 2=a.length+b.length:=rfl;have lJ:((2:Nat):Int)=2:=rfl;have rh:IntKind.i64.wrap ((1:Int)+1)=((2:Nat):Int):=dQ (by omega);simp only [go_sem,ax,aS];refine aG.cO (ι:={i:Nat // i≤2}) 1000 (fun q=>fe 36 [(0, .ps 1 [.ps 2 (a.map Tm.aM), .ps 2 (b.map Tm.aM)]),(2, .aW),(3, .int .i64 (G_ a b q.1)),(9, .ps 1 [.ps 2 (a.map Tm.aM), .ps 2 (b.map Tm.aM)]),(10, .int .i64 ((2:Nat):Int)),(11, .int .i64 q.1)])
  (fun _=>[]) (fun q=>2 - q.1) ⟨0,by omega⟩ ?_ (fun _=>au _) ?_
 ·simp only [go_sem,c0,lJ,bW]
 ·rintro ⟨i,hi⟩;obtain rfl | rfl | rfl:i=0∨i=1∨i=2:=by omega
  ·have hw:IntKind.i64.wrap (a.length:Int)=a.length:=dQ (by omega);have hn:¬ (a.length:Int)<0:=by omega
   simp only [go_sem,c0,lJ,aj,hw,hn,bm];exact ⟨⟨1,by omega⟩,⟨⟨rfl,rfl⟩,bW _,bW _⟩,by simp only;omega⟩
  ·have hw:IntKind.i64.wrap ((a.length:Int)+b.length)=((a.length+b.length:Nat):Int):=by rw [dQ (by omega)];omega
   have hn:¬ ((a.length+b.length:Nat):Int)<0:=by omega
   simp only [go_sem,c1,lJ,aj,hw,hn,bm,bI];exact ⟨⟨2,by omega⟩,⟨⟨rfl,by rw [rh]⟩,bW _,bW _⟩,by simp only;omega⟩
  ·simp only [go_sem,c2,lJ,km];refine aG.go 1000 ?_;simp only [go_sem];refine (Yek (a.length+b.length) (by omega)).mono ?_;rintro r σ' (⟨hz,rfl,rfl⟩ | ⟨J,hJ,rfl,rfl⟩)
   ·have Oq:a=[]:=bg (by omega);have yw:b=[]:=bg (by omega);subst Oq;subst yw;refine aG.go 1000 ?_;simp only [go_sem,aV,ax,aS];refine aG.cO (ι:={i:Nat // i≤2}) 1000 (fun q=>fe 36 [(2, .aW),(6, .aW),(25, .ps 1 [.ps 2 [], .ps 2 []]),(26, .int .i64 ((2:Nat):Int)),(27, .int .i64 q.1)])
     (fun _=>[]) (fun q=>2 - q.1) ⟨0,by omega⟩ ?_ (fun _=>au _) ?_
    ·simp only [go_sem,lJ]
    ·rintro ⟨i,hi⟩;obtain rfl | rfl | rfl:i=0∨i=1∨i=2:=by omega
     ·simp only [go_sem,lJ,bm,aS];exact ⟨of_eq_true (Dk []),⟨1,by omega⟩,rfl,by simp only;omega⟩
     ·simp only [go_sem,lJ,bm,bI,aS];exact ⟨of_eq_true (Dk []),⟨2,by omega⟩,by rw [rh],by simp only;omega⟩
     ·simp only [go_sem,lJ,km];refine aG.go 1000 ?_;simp only [go_sem,bu,aV]
   ·refine aG.go 1000 ?_;simp only [go_sem,ax,aS];refine aG.gf (ι:={i:Nat // i≤2}) 1000 (fun q=>fe 36 [(2, .aW),(6, .os 0 0 (G_ a b q.1) 2),(25, .ps 1 [.ps 2 (a.map Tm.aM), .ps 2 (b.map Tm.aM)]),(26, .int .i64 ((2:Nat):Int)),(27, .int .i64 q.1)])
     (fun q=>[some (.row (DG a b J q.1) 0)]) (fun q=>2 - q.1) ⟨0,by omega⟩ [] ?_ (fun _=>au _) ?_
    ·refine iz rfl ?_;simp only [go_sem,lJ,c0,show DG a b J 0=J from rfl,bW,cK (bW _),cK hJ,iO (au 1) hJ]
    ·rintro ⟨i,hi⟩;obtain rfl | rfl | rfl:i=0∨i=1∨i=2:=by omega
     ·simp only [go_sem,lJ,c0,show DG a b J 0=J from rfl,bm,aj]
      refine ⟨⟨by omega,by omega⟩,⟨1,by omega⟩,[(0,1),(1,0)],iz rfl ?_,by simp only;omega⟩;simp only [go_sem,lJ,c1,show DG a b J 1=a.map Tm.aM from rfl,bW,cK (bW _)]
     ·simp only [go_sem,lJ,c1,show DG a b J 1=a.map Tm.aM from rfl,bm,bI,aj]
      refine ⟨⟨by omega,by omega⟩,⟨2,by omega⟩,[(0,1),(1,0)],iz rfl ?_,by simp only;omega⟩;simp only [go_sem,lJ,rh,c2,show DG a b J 2=(a++b).map Tm.aM from rfl,bW,cK (bW _),cY]
      have lw:bF 0 (a.map Tm.aM++b.map Tm.aM):=tA (bW a) (bW b);rw [bh (by simp),cK lw];exact ⟨rfl,iO (au 1) lw⟩
     ·simp only [go_sem,lJ,c2,show DG a b J 2=(a++b).map Tm.aM from rfl,km]
      refine aG.go 1000 ?_;simp only [go_sem,aj,az];rw [bh (by simp)];exact cx _ _ _
theorem I9:∀ (a b:List Tm) (t:Tm),t∈eI a b→t∈a
 | [],_,t,h=>by rw [eI] at h;cases h
 | x :: a,b,t,h=>by
  rw [eI] at h;split at h
  ·rcases aQ.1 h with rfl | h
   ·simp
   ·exact cR _ (I9 a b t h)
  ·exact cR _ (I9 a _ t h)
theorem Jc:∀ (a b:List Tm),(eI a b).length≤a.length
 | [],_=>by rw [eI];exact ae _
 | x :: a,b=>by
  rw [eI];split
  ·have:=Jc a b;simp only [ax];omega
  ·have:=Jc a (p9 b (ei (fun y=>decide (x=y)) b 0).toNat);simp only [ax];omega
def qn (g:List Sy) (a b:List Tm):Int :=
 if (eI a b).length+(eI b a).length=0 then 0 else if ni g (eI a b) (eI b a)=true then 1 else if ni g (eI b a) (eI a b)=true then -1 else 2
theorem Ypp (g:List Sy) (hg:uG g) (lK:g.length<1000000) (a b:List Tm) (ha:a.length<500000) (hb:b.length<500000) (hs:∀ t∈a++b,t.size<99999999) (jA:fc g (a++b)=0→∀ t∈a++b,jQ g t) :
  aD Tryz.prog 215 [.ps 4 (syms g), .ps 2 (a.map Tm.aM), .ps 2 (b.map Tm.aM)] (.dT [.int .i64 (if fc g (a++b)=0 then qn g a b else 0), .int .i64 (fc g (a++b))]):=by
 refine aD.begin (rs:=[.tmp 6, .tmp 7]) (m:=40) 1000 Tryz.func215 rfl rfl rfl (by decide) ⟨trivial,trivial,trivial⟩ ?_;have hw:=V7 g (a++b) (by simp;omega) hs;have BR:∀ t∈a,t.size<99999999:=fun t ht=>hs t (by simp [ht]);have uK:∀ t∈b,t.size<99999999:=fun t ht=>hs t (by simp [ht]);simp only [go_sem];refine aq.bS [0] (Zwq a b (by omega) (by omega)) ?_ ⟨⟨bW a,bW b,trivial⟩,trivial⟩ ?_
 ·simp only [go_sem]
 generalize bC _=fl;have BQ:∀ σ:ai,aq Tryz.prog (.fn 194 [] []) [.ps 4 (syms g), .ps 2 ((a++b).map Tm.aM)] σ (fun r σ'=>r = .int .i64 (fc g (a++b))∧σ' = σ):=fun σ=>by
  refine aq.bS [] hw (cx _ _ _) ⟨dy _,bW (a++b),trivial⟩ ?_;simp only [bC,bN,bL,if_true];exact ⟨trivial,trivial⟩
 obtain ⟨fz,FJ⟩:∃ fz,(if fl=true then [some (bO.row [.ps 2 (a.map Tm.aM), .ps 2 (b.map Tm.aM)] 0)] else gD (among [0]) 0 [some (bO.row [.ps 2 (a.map Tm.aM), .ps 2 (b.map Tm.aM)] 0)])=[some (bO.row [.ps 2 (a.map Tm.aM), .ps 2 (b.map Tm.aM)] fz)]:=by
  cases fl
  ·exact ⟨_,rfl⟩
  ·exact ⟨_,rfl⟩
 rw [FJ];refine aG.go 1000 ?_;simp only [go_sem];refine (BQ _).mono ?_;rintro r σ' ⟨rfl,rfl⟩;by_cases h:fc g (a++b)=0
 ·have hk:=jA h;have hka:∀ t∈a,jQ g t:=fun t ht=>hk t (by simp [ht]);have hkb:∀ t∈b,jQ g t:=fun t ht=>hk t (by simp [ht]);have l1:=Jc a b;have l2:=Jc b a;have m1:∀ t∈eI a b,jQ g t:=fun t ht=>hka t (I9 _ _ t ht);have m2:∀ t∈eI b a,jQ g t:=fun t ht=>hkb t (I9 _ _ t ht);have o1:=Xe g hg lK (eI a b) (eI b a) m1 m2 (by omega) (by omega);have o2:=Xe g hg lK (eI b a) (eI a b) m2 m1 (by omega) (by omega);refine aG.go 1000 ?_;rw [if_pos h];simp only [go_sem,h];refine aq.bS [] (WH a b (by omega) (by omega) BR uK) (cx _ _ _) ⟨bW a,bW b,trivial⟩ ?_;rw [je];simp only [ite_self];refine aG.go 1000 ?_;simp only [go_sem];refine aq.bS [] (WH b a (by omega) (by omega) uK BR) (cx _ _ _) ⟨bW b,bW a,trivial⟩ ?_;rw [je];simp only [ite_self];have HZ:qn g a b=if (eI a b).length+(eI b a).length=0 then 0 else if ni g (eI a b) (eI b a)=true then 1 else if ni g (eI b a) (eI a b)=true then -1 else 2:=rfl
  rw [HZ];generalize eI a b=x at *
  generalize eI b a=y at *
  have rh:IntKind.i64.wrap ((x.length:Int)+y.length)=((x.length+y.length:Nat):Int):=by rw [dQ (by omega)];omega
  refine aG.go 1000 ?_;by_cases h1:x.length+y.length=0
  ·rw [if_pos h1];have h2:((x.length+y.length:Nat):Int)=0:=by omega
   simp only [go_sem,aj,rh,h2]
  ·rw [if_neg h1];have h2:¬ ((x.length+y.length:Nat):Int)=0:=by omega
   simp only [go_sem,aj,rh,h2];refine aq.bS [] o1 (cx _ _ _) ⟨dy _,bW x,bW y,trivial⟩ ?_;simp only [bC,bN,bL,if_true];refine aG.go 1000 ?_;cases h3:ni g x y
   ·simp only [go_sem,h3];refine aq.bS [] o2 (cx _ _ _) ⟨dy _,bW y,bW x,trivial⟩ ?_;simp only [bC,bN,bL,if_true];refine aG.go 1000 ?_;cases h4:ni g y x
    ·simp only [go_sem,h4]
    ·simp only [go_sem,h4]
   ·simp only [go_sem,h3]
 ·refine aG.go 1000 ?_;rw [if_neg h];simp only [go_sem,h]
def zH (g:List Sy) (l:Li):Prop:=jQ g l.l∧jQ g l.r
def sD (l:Li):Prop:=l.l.size<99999999∧l.r.size<99999999
theorem Nc {l:Li} {t:Tm} (h:t∈l7 l):t=l.l∨t=l.r:=by
 unfold l7 at h;split at h<;>simp at h<;>rcases h with rfl | rfl<;>simp
theorem Wb (l:Li):(l7 l).length≤4:=by
 unfold l7;split<;>simp
theorem Cd {g:List Sy} {l:Li} (h:l.check g=0):l.l.term g=0∧l.r.term g=0:=by
 unfold Li.check at h;by_cases h1:l.l.term g=0
 ·rw [if_neg (by simp [h1])] at h;by_cases h2:l.r.term g=0
  ·exact ⟨h1,h2⟩
  ·rw [if_pos h2] at h;exact absurd h h2
 ·rw [if_pos h1] at h;exact absurd h h1
theorem Ti {g:List Sy}:∀ {ts:List Tm},(∀ t∈ts,t.term g=0)→fc g ts=0
 | [],_=>rfl
 | t :: ts,h=>by rw [fc,if_pos (h t (by simp))];exact Ti fun x hx=>h x (by simp [hx])
def qX (g:List Sy) (a b:Li):Int×Int:=if a.check g≠0 then (0,a.check g) else if b.check g≠0 then (0,b.check g) else (qn g (l7 a) (l7 b),0)
theorem Zvq (g:List Sy) (hg:uG g) (lK:g.length<1000000) (a b:Li) (sa:sD a) (sb:sD b) (oa:a.check g=0→zH g a) (ob:b.check g=0→zH g b) :
  aD Tryz.prog 198 [.ps 4 (syms g),a.aM,b.aM] (.dT [.int .i64 (qX g a b).1, .int .i64 (qX g a b).2]):=by
 refine aD.begin (rs:=[.tmp 6, .tmp 7]) (m:=27) 1000 Tryz.func198 rfl rfl rfl (by decide) ⟨trivial,trivial,trivial⟩ ?_;have c1:=Mj g a (by have:=sa.1;omega) (by have:=sa.2;omega);have c2:=Mj g b (by have:=sb.1;omega) (by have:=sb.2;omega);simp only [go_sem,kH];refine aq.bS [] c1 (cx _ _ _) ⟨dy _,nt _,trivial⟩ ?_;simp only [bC,bN,bL,if_true];refine aG.go 1000 ?_;by_cases h1:a.check g=0
 ·simp only [go_sem,h1];refine aq.bS [] c2 (cx _ _ _) ⟨dy _,nt _,trivial⟩ ?_;simp only [bC,bN,bL,if_true];refine aG.go 1000 ?_;by_cases h2:b.check g=0
  ·have hr:qX g a b=(qn g (l7 a) (l7 b),0):=by unfold qX;rw [if_neg (by simp [h1]),if_neg (by simp [h2])]
   have sc:=Wb a;have BJ:=Wb b;have jX:∀ t∈l7 a++l7 b,t.size<99999999∧jQ g t∧t.term g=0:=fun t ht=>by
    rcases aY.1 ht with ht | ht
    ·rcases Nc ht with rfl | rfl
     ·exact ⟨sa.1,(oa h1).1,(Cd h1).1⟩
     ·exact ⟨sa.2,(oa h1).2,(Cd h1).2⟩
    ·rcases Nc ht with rfl | rfl
     ·exact ⟨sb.1,(ob h2).1,(Cd h2).1⟩
     ·exact ⟨sb.2,(ob h2).2,(Cd h2).2⟩
   have hm:=Ypp g hg lK (l7 a) (l7 b) (by omega) (by omega) (fun t ht=>(jX t ht).1) (fun _ t ht=>(jX t ht).2.1);rw [Ti (fun t ht=>(jX t ht).2.2),if_pos rfl] at hm;rw [hr];simp only [go_sem,h2];refine aG.draw [] 2 2 mixed rfl rfl (by decide) ?_;simp only [go_sem,da];refine kG (Rm a) (cx _ _ _) ⟨nt _,trivial⟩ ?_;simp only [go_sem];refine kG (Rm b) (cx _ _ _) ⟨nt _,trivial⟩ ?_;simp only [go_sem];refine kG hm (cx _ _ _) ⟨dy _,bW _,bW _,trivial⟩ ?_;simp only [go_sem];refine aG.go 1000 ?_;simp only [go_sem]
  ·have hr:qX g a b=(0,b.check g):=by unfold qX;rw [if_neg (by simp [h1]),if_pos h2]
   rw [hr];simp only [go_sem,h2]
 ·have hr:qX g a b=(0,a.check g):=by unfold qX;rw [if_pos h1]
  rw [hr];simp only [go_sem,h1]
def fw (a b:Li):Bool:=decide (a.neg=b.neg)&&mM a b
def tE (l:List Li) (i:Nat):List Li:=l.take i++l.drop (i+1)
def fh:List Li→List Li→List Li
 | [],_=>[]
 | t :: a,b=>if ei (fun x=>fw t x) b 0<0 then t :: fh a b else fh a (tE b (ei (fun x=>fw t x) b 0).toNat)
def vH (t:Li):Option bO:=some (.var [.bool t.neg, .int .i64 t.l.head, .ps 2 (t.l.args.map Tm.aM), .int .i64 t.r.head, .ps 2 (t.r.args.map Tm.aM)])
def xK:Option bO:=some (.var [.fn 65 [] []])
theorem Yiz (o1 o2 o3:Option bO) (t x:Li) (hs:bD 5 [xK,o1,o2,o3,vH t]) (ht:sD t) (hx:sD x) :
  aq Tryz.prog (.fn 214 [] [.ptr 0 0, .ptr 4 0]) [x.aM] [xK,o1,o2,o3,vH t] (fun r σ'=>r = .bool (fw t x)∧σ'=[xK,o1,o2,o3,vH t]):=by
 unfold xK vH at hs ⊢;refine aq.begin (rs:=[.tmp 4]) (m:=6) 1000 Tryz.func214 rfl rfl rfl rfl rfl ?_;have h:=WV t x ⟨by have:=ht.1;omega,by have:=ht.2;omega⟩ ⟨by have:=hx.1;omega,by have:=hx.2;omega⟩;simp only [go_sem,kH];refine aq.bS [] h (cx _ _ _) ⟨nt _,nt _,trivial⟩ ?_;simp only [bC,bN,bL,if_true];refine aG.go 1000 ?_;simp only [go_sem];rw [gC];exact ⟨[xK,o1,o2,o3,vH t],by simp [xK,vH,go_sem,UT],by simp,hs,trivial,rfl,rfl⟩
theorem QK (a b:List Li) (yw:b≠[]) (ha:a.length<1000000) (hb:b.length<1000000) (BR:∀ t∈a,sD t) (uK:∀ t∈b,sD t):aD Tryz.prog 196 [.ps 5 (lits a), .ps 5 (lits b), .fn 65 [] []] (.ps 5 (lits (fh a b))):=by
 refine aD.begin (rs:=[.tmp 6]) (m:=33) 1000 Tryz.func196 rfl rfl rfl (by decide) (cy _) ?_;simp only [go_sem];refine aq.ur [] (IX b yw (by omega)) (cx _ _ _) ⟨cy _,trivial⟩ ?_;rw [je];simp only [Bc,A9,Bj,yl,Bl,up,cK (cy _)];refine aG.go 1000 ?_;simp only [go_sem,fR];refine aG.gf (ι:={q:Nat×List Li×List Li // q.1≤a.length∧q.2.1++fh (a.drop q.1) q.2.2=fh a b∧q.2.1.length≤q.1∧q.2.2.length≤b.length∧∀ x∈q.2.2,sD x}) 1000
  (fun q=>fe 36 [(5, .ptr 0 0),(6, .aW),(7, .os 2 0 q.1.2.2.length 5),(8,jk 3 5 (lits q.1.2.1)),(14, .ps 5 (lits a)),(15, .int .i64 a.length),(16, .int .i64 q.1.1)])
  (fun q=>[xK,none,some (.row (lits q.1.2.2) 0),fx (lits q.1.2.1)]) (fun q=>a.length - q.1.1) ⟨(0,[],b),by simpa using uK⟩ [] ?_ (fun _=>au _) ?_
 ·refine iz rfl ?_;unfold xK;simp only [go_sem,cy,cK (cy _),show lits []=[] from rfl,s_,sM]
 ·rintro ⟨⟨i,L,c⟩,hi,aN,Bx,ig,ug⟩;simp only at hi aN Bx ig ug;by_cases bA:(i:Int)<a.length
  ·have aU:i<a.length:=by omega
   have hw:IntKind.i64.wrap ((i:Int)+1)=((i+1:Nat):Int):=by rw [dQ (by omega)];omega
   have sQ:=tz aU;have sT:=BR _ (aC aU);rw [ao aU,fh] at aN;generalize a[i]=t at *
   have jg:bD 5 [xK,none,some (bO.row (lits c) 0),fx (lits L),vH t]:=⟨⟨⟨trivial,trivial⟩,trivial⟩,trivial,cy c,Ag _ (cy L),⟨trivial,trivial,bW _,trivial,bW _,trivial⟩,trivial⟩;have HK:=Tx [xK,none,some (bO.row (lits c) 0),fx (lits L),vH t] (b:=2) (.fn 214 [] [.ptr 0 0, .ptr 4 0]) (fun x=>fw t x) c rfl (by omega) jg (by simp [go_sem]) (fun j hj=>Yiz none _ _ t c[j] jg sT (ug _ (aC hj)));unfold xK vH at HK;unfold xK;simp only [go_sem,bA,fR,sQ,kH];refine ⟨by omega,?_⟩;refine HK.mono ?_;rintro r σ' ⟨rfl,rfl⟩;rcases I3 (fun x=>fw t x) c 0 (by omega) with ⟨q1,_⟩ | ⟨k,q1,q2,_⟩
   ·rw [q1] at aN ⊢;rw [if_pos (by omega)] at aN;refine aG.go 1000 ?_;simp only [go_sem,Int.reduceNeg,Int.reduceLT];have h2:bP [some (bO.var [.fn 65 [] []]),none,some (bO.row (lits c) 0),fx (lits L),some (bO.var [.bool t.neg, .int .i64 t.l.head, .ps 2 (t.l.args.map Tm.aM), .int .i64 t.r.head, .ps 2 (t.r.args.map Tm.aM)]),some (bO.row [.agg [.bool t.neg, .int .i64 t.l.head, .ps 2 (t.l.args.map Tm.aM), .int .i64 t.r.head, .ps 2 (t.r.args.map Tm.aM)]] 0)] 3=fx (lits L):=rfl;have CS:lits [t]=[.agg [.bool t.neg, .int .i64 t.l.head, .ps 2 (t.l.args.map Tm.aM), .int .i64 t.r.head, .ps 2 (t.r.args.map Tm.aM)]]:=rfl;have nO:=of_eq_true (N0 [t]);rw [CS] at nO;simp only [go_sem,vX h2,nO,fR,hw];refine ⟨by omega,⟨(i+1,L++[t],c),by simp only;omega,by rw [← aN];simp,by simp only [az,ax,aS];omega,ig,ug⟩,[(3,6),(6,3)],iz rfl ?_,by simp only;omega⟩;have lw:bF 0 (lits (L++[t])):=cy _;have sc:lits (L++[t])=lits L++[.agg [.bool t.neg, .int .i64 t.l.head, .ps 2 (t.l.args.map Tm.aM), .int .i64 t.r.head, .ps 2 (t.r.args.map Tm.aM)]]:=by rw [← CS];simp [lits]
    dsimp only
    rw [sc] at lw ⊢;rw [Fq,Fg];simp only [go_sem,cy,cK (cy _),cK lw,iO (au 4) lw,fR]
   ·have D9:(0:Int)+k=k:=by omega
    rw [q2,D9] at aN ⊢;rw [if_neg (by omega),aR] at aN;have Po:¬ (k:Int)<0:=by omega
    have FY:IntKind.i64.wrap ((k:Int)+1)=((k+1:Nat):Int):=by rw [dQ (by omega)];omega
    refine aG.go 1000 ?_;simp only [go_sem,Po,FY];refine aq.Bo (f:=.fn 71 [] []) (args:=[.os 0 0 c.length 5, .int .i64 k, .int .i64 ((k+1:Nat):Int)]) (B:=.row (lits c) 0) 2 rfl (cy _) ⟨trivial,trivial⟩ ⟨a_,trivial,trivial,trivial⟩ ((LH c k q1 (by omega)).mono ?_);rintro r σ' ⟨rfl,rfl⟩;refine ⟨a_,_,rfl,cy _,?_⟩;have za:(tE c k).length=c.length - 1:=by simp only [tE,az,cA,cz];omega
    rw [show c.take k++c.drop (k+1)=tE c k from rfl,← za]
    simp only [go_sem,cW,dc];refine aG.go 1000 ?_;simp only [go_sem,hw];refine ⟨⟨(i+1,L,tE c k),by simp only;omega,aN,by simp only;omega,by simp only;omega,fun x hx=>?_⟩,[],iz rfl ?_,by simp only;omega⟩
    ·rcases aY.1 hx with hx | hx
     ·exact ug x (jF hx)
     ·exact ug x (List.mem_of_mem_drop hx)
    simp only [go_sem,cy,cK (cy _),Jl (cy L)]
  ·have dZ:i=a.length:=by omega
   subst dZ;rw [aX,fh,bu] at aN;unfold xK;simp only [go_sem,bA];refine aG.go 1000 ?_;simp only [go_sem];rw [← aN,rO rfl rfl];trivial
def Al (g:List Sy) (a b:Li):Bool:=decide ((qX g a b).2=0)&&decide ((qX g a b).1=1)
def wy (g:List Sy):ah:=.fn 197 [] [.pp [.ps 4 (syms g)]]
@[go_sem] theorem GR {n:Nat} (g:List Sy):ah.low n (wy g)=True:=eq_true ⟨trivial,⟨⟨dy _,trivial⟩,trivial⟩⟩
@[go_sem] theorem Xcc {π:Nat→Nat} (g:List Sy):ek π (wy g)=wy g:=Ba (of_eq_true (GR g))
def ql (g:List Sy) (l:Li):Prop:=sD l∧(l.check g=0→zH g l)
theorem Zvb (g:List Sy) (hg:uG g) (lK:g.length<1000000) (a b:Li) (ha:ql g a) (hb:ql g b) :
  aD Tryz.prog 197 [a.aM,b.aM, .pp [.ps 4 (syms g)]] (.bool (Al g a b)):=by
 refine aD.begin (rs:=[.tmp 5]) (m:=18) 1000 Tryz.func197 rfl rfl rfl (by decide) trivial ?_;have h:=Zvq g hg lK a b ha.1 hb.1 ha.2 hb.2;unfold Al;generalize qX g a b=z at *
 simp only [go_sem,kH];refine aq.bS [] h (cx _ _ _) ⟨dy _,nt _,nt _,trivial⟩ ?_;rw [je];simp only [ite_self];refine aG.go 1000 ?_;by_cases h1:z.2=0
 ·simp only [go_sem,h1,decide_true,cG]
 ·simp only [go_sem,h1,decide_false,cE]
theorem Ydr (g:List Sy) (hg:uG g) (lK:g.length<1000000) (x y:Li) (hx:ql g x) (hy:ql g y) :
  aq Tryz.prog (.fn 217 [] [.ptr 0 0, .ptr 1 0]) [x.aM] [some (.var [wy g]),vH y] (fun r σ'=>r = .bool (Al g x y)∧σ'=[some (.var [wy g]),vH y]):=by
 unfold vH;refine aq.begin (rs:=[.tmp 4]) (m:=6) 1000 Tryz.func217 rfl rfl rfl rfl rfl ?_;have h:=Zvb g hg lK x y hx hy;simp only [go_sem,kH,wy];refine aq.bS [] h (cx _ _ _) ⟨nt _,nt _,⟨dy _,trivial⟩,trivial⟩ ?_;simp only [bC,bN,bL,if_true];refine aG.go 1000 ?_;simp only [go_sem];rw [gC];exact ⟨[some (.var [wy g]),vH y],by simp [vH,wy,go_sem],by simp,⟨⟨of_eq_true (GR g),trivial⟩,⟨trivial,trivial,bW _,trivial,bW _,trivial⟩,trivial⟩,trivial,rfl,rfl⟩
def kR (g:List Sy) (a:List Li):List Li→Bool
 | []=>decide (0<a.length)
 | y :: b=>if a.any (fun x=>Al g x y)=true then kR g a b else false
theorem QI (g:List Sy) (hg:uG g) (lK:g.length<1000000) (a b:List Li) (ha:a.length<1000000) (hb:b.length<1000000) (sc:∀ x∈a,ql g x) (BJ:∀ x∈b,ql g x) :
  aD Tryz.prog 199 [.ps 5 (lits a), .ps 5 (lits b),wy g] (.bool (kR g a b)):=by
 refine aD.begin (rs:=[.tmp 6]) (m:=20) 1000 Tryz.func199 rfl rfl rfl (by decide) trivial ?_;have gc:(wy g).cells=[wy g]:=rfl;have gi:(wy g).cT=true:=rfl;simp only [go_sem,fR,gc,gi];refine aG.cO (ι:={i:Nat // i≤b.length∧kR g a (b.drop i)=kR g a b}) 1000 (fun q=>fe 23 [(0, .ps 5 (lits a)),(5, .ptr 0 0),(6, .bool false),(9, .ps 5 (lits b)),(10, .int .i64 b.length),(11, .int .i64 q.1)])
  (fun _=>[some (.var [wy g])]) (fun q=>b.length - q.1) ⟨0,by simp⟩ ?_ (fun _=>au _) ?_
 ·simp only [go_sem,cy]
 ·rintro ⟨i,hi,aN⟩;by_cases bA:(i:Int)<b.length
  ·have aU:i<b.length:=by omega
   have hw:IntKind.i64.wrap ((i:Int)+1)=((i+1:Nat):Int):=by rw [dQ (by omega)];omega
   have sQ:=tz aU;have hyo:=BJ _ (aC aU);rw [ao aU,kR] at aN;generalize b[i]=y at *
   have jg:bD 2 [some (bO.var [wy g]),vH y]:=⟨⟨of_eq_true (GR g),trivial⟩,⟨trivial,trivial,bW _,trivial,bW _,trivial⟩,trivial⟩;have hc:=IF [some (bO.var [wy g]),vH y] (.fn 217 [] [.ptr 0 0, .ptr 1 0]) (fun x=>Al g x y) a (by omega) jg (by simp [go_sem]) (fun j hj=>Ydr g hg lK a[j] y (sc _ (aC hj)) hyo);unfold vH at hc;simp only [go_sem,bA,fR,sQ,kH];refine ⟨by omega,?_⟩;refine hc.mono ?_;rintro r σ' ⟨rfl,rfl⟩;cases h3:a.any (fun x=>Al g x y)
   ·rw [h3] at aN;simp only [bd,if_false] at aN;refine aG.go 1000 ?_;simp only [go_sem];refine aG.go 1000 ?_;simp only [go_sem,← aN]
   ·rw [h3,if_pos rfl] at aN;refine aG.go 1000 ?_;simp only [go_sem,hw];refine ⟨⟨i+1,by omega,aN⟩,?_,by simp only;omega⟩;simp only [go_sem,cy]
  ·have dZ:i=b.length:=by omega
   subst dZ;rw [aX,kR] at aN;simp only [go_sem,bA];refine aG.go 1000 ?_;simp only [go_sem,fR,← aN];exact congrArg ah.bool (decide_eq_decide.2 (by omega))
def pC (g:List Sy) (a b:List Li):Int×Int :=
 if aZ g a≠0 then (0,aZ g a) else if aZ g b≠0 then (0,aZ g b) else
 if (fh a b).length+(fh b a).length=0 then (0,0) else if kR g (fh a b) (fh b a)=true then (1,0) else if kR g (fh b a) (fh a b)=true then (-1,0) else (2,0)
theorem Je:∀ (a b:List Li) (t:Li),t∈fh a b→t∈a
 | [],_,t,h=>by rw [fh] at h;cases h
 | x :: a,b,t,h=>by
  rw [fh] at h;split at h
  ·rcases aQ.1 h with rfl | h
   ·simp
   ·exact cR _ (Je a b t h)
  ·exact cR _ (Je a _ t h)
theorem Zip:∀ (a b:List Li),(fh a b).length≤a.length
 | [],_=>by rw [fh];exact ae _
 | x :: a,b=>by
  rw [fh];split
  ·have:=Zip a b;simp only [ax];omega
  ·have:=Zip a (tE b (ei (fun y=>fw x y) b 0).toNat);simp only [ax];omega
theorem Zvn (g:List Sy) (hg:uG g) (lK:g.length<1000000) (a b:List Li) (Oq:a≠[]) (yw:b≠[]) (ha:a.length<500000) (hb:b.length<500000) (sc:∀ x∈a,ql g x) (BJ:∀ x∈b,ql g x) :
  aD Tryz.prog 172 [.ps 4 (syms g), .ps 5 (lits a), .ps 5 (lits b)] (.dT [.int .i64 (pC g a b).1, .int .i64 (pC g a b).2]):=by
 refine aD.begin (rs:=[.tmp 6, .tmp 7]) (m:=46) 1000 Tryz.func172 rfl rfl rfl (by decide) ⟨trivial,trivial,trivial⟩ ?_;have k1:=Gq g a (fun i h=>by have:=(sc _ (aC h)).1;exact ⟨by have:=this.1;omega,by have:=this.2;omega⟩);have k2:=Gq g b (fun i h=>by have:=(BJ _ (aC h)).1;exact ⟨by have:=this.1;omega,by have:=this.2;omega⟩);simp only [go_sem];refine aq.bS [] k1 (cx _ _ _) ⟨dy _,cy _,trivial⟩ ?_;simp only [bC,bN,bL,if_true];refine aG.go 1000 ?_;by_cases h1:aZ g a=0
 ·simp only [go_sem,h1];refine aq.bS [] k2 (cx _ _ _) ⟨dy _,cy _,trivial⟩ ?_;simp only [bC,bN,bL,if_true];refine aG.go 1000 ?_;by_cases h2:aZ g b=0
  ·have hr:pC g a b=if (fh a b).length+(fh b a).length=0 then (0,0) else if kR g (fh a b) (fh b a)=true then (1,0) else if kR g (fh b a) (fh a b)=true then (-1,0) else (2,0):=by
    unfold pC;rw [if_neg (by simp [h1]),if_neg (by simp [h2])]
   have Yn:∀ t∈a,sD t:=fun t ht=>(sc t ht).1;have Yo:∀ t∈b,sD t:=fun t ht=>(BJ t ht).1;have l1:=Zip a b;have l2:=Zip b a;have m1:∀ t∈fh a b,ql g t:=fun t ht=>sc t (Je _ _ t ht);have m2:∀ t∈fh b a,ql g t:=fun t ht=>BJ t (Je _ _ t ht);have o1:=QI g hg lK (fh a b) (fh b a) (by omega) (by omega) m1 m2;have o2:=QI g hg lK (fh b a) (fh a b) (by omega) (by omega) m2 m1;rw [hr];simp only [go_sem,h2];refine aq.bS [] (QK a b yw (by omega) (by omega) Yn Yo) (cx _ _ _) ⟨cy _,cy _,⟨trivial,trivial⟩,trivial⟩ ?_;rw [je];simp only [ite_self];refine aG.go 1000 ?_;simp only [go_sem];refine aq.bS [] (QK b a Oq (by omega) (by omega) Yo Yn) (cx _ _ _) ⟨cy _,cy _,⟨trivial,trivial⟩,trivial⟩ ?_;rw [je];simp only [ite_self];generalize fh a b=x at *
   generalize fh b a=y at *
   have rh:IntKind.i64.wrap ((x.length:Int)+y.length)=((x.length+y.length:Nat):Int):=by rw [dQ (by omega)];omega
   refine aG.go 1000 ?_;by_cases h3:x.length+y.length=0
   ·rw [if_pos h3];have h4:((x.length+y.length:Nat):Int)=0:=by omega
    simp only [go_sem,fR,rh,h4]
   ·rw [if_neg h3];have h4:¬ ((x.length+y.length:Nat):Int)=0:=by omega
    simp only [go_sem,fR,rh,h4];refine aq.uq (b:=0) (cs:=[.ps 4 (syms g)]) [] rfl o1 (cx _ _ _) ⟨cy _,cy _,of_eq_true (GR g),trivial⟩ rfl ?_;refine aG.go 1000 ?_;cases h5:kR g x y
    ·simp only [go_sem,h5];refine aq.uq (b:=0) (cs:=[.ps 4 (syms g)]) [] rfl o2 (cx _ _ _) ⟨cy _,cy _,of_eq_true (GR g),trivial⟩ rfl ?_;refine aG.go 1000 ?_;cases h6:kR g y x
     ·simp only [go_sem,h6]
     ·simp only [go_sem,h6]
    ·simp only [go_sem,h5]
  ·have hr:pC g a b=(0,aZ g b):=by unfold pC;rw [if_neg (by simp [h1]),if_pos h2]
   rw [hr];simp only [go_sem,h2]
 ·have hr:pC g a b=(0,aZ g a):=by unfold pC;rw [if_pos h1]
  rw [hr];simp only [go_sem,h1]
theorem UX {P:Program} {lo:Ctx} {Q:ct→St→Prop} {k:List KI} {ops:Array Oper} {l:List Oper} {fs:List Fp} {tm:List ah} {σ m:ai} {d:Option Tmp} {g:FuncId} {first captured args args':List ah} {r:ah} {wr:List Nat} {b:Nat} {cs:List ah} (hb:bP m b=some (.var cs)) (hc:aD P g args' r)
  (hp:lj (among []) (m.set b none) args' ((first++args++captured).map (uF b cs))) (hl:bF 0 args') (D0:bC r=true)
  (h:iT P lo Q k ops l fs (put tm d r) (dX wr 0 m σ)):tD P lo Q k ops wr d l fs tm σ m (.fn g first captured) args :=
 ⟨r,m,aq.uq [] hb hc hp hl D0 ⟨rfl,rfl⟩,A2 wr m 0,h⟩
def n5 (g:List Sy) (t:Tm):Bool:=decide (0≤t.head)&&((g[t.head.toNat]?).map Sy.cd).getD false
theorem VA (g:List Sy) (t:Tm) (ht:t.head<g.length):aD Tryz.prog 168 [t.aM, .pp [.ps 4 (syms g)]] (.bool (n5 g t)):=by
 refine aD.begin (rs:=[.tmp 3]) (m:=13) 1000 Tryz.func168 rfl rfl rfl (by decide) trivial ?_;unfold n5;by_cases h : 0≤t.head
 ·have hk:t.head.toNat<g.length:=by omega
  have OZ:=qS hk;have hh:((g[t.head.toNat]?).map Sy.cd).getD false=(g[t.head.toNat]).cd:=by simp [hk]
  simp only [go_sem,fL,h,ld,OZ,pU,decide_true,cG,hh];exact ht
 ·simp only [go_sem,fL,h,decide_false,cE]
def oT (g:List Sy) (u:Un) (t:Tm) (m:List Bd×Bool×Int) (s:Tm×Int) (k q:Int×Int):Tm×Bool :=
 if n5 g u.l≠n5 g t then (t,false) else if m.2.2≠0∨m.2.1=false then (t,false) else if s.2≠0 then (t,false) else
 if k.2≠0∨k.1≠1 then (t,false) else (s.1,decide (q.2=0)&&decide (q.1 = -1))
theorem Yh6 (g:List Sy) (u:Un) (t:Tm) (c:List Li) (m:List Bd×Bool×Int) (s:Tm×Int) (k q:Int×Int) (hl:u.l.head<g.length) (ht:t.head<g.length)
  (hM:aD Tryz.prog 169 [u.l.aM,t.aM] (.dT [.ps 3 (oJ m.1), .bool m.2.1, .int .i64 m.2.2]))
  (hA:m.2.2=0→m.2.1=true→aD Tryz.prog 170 [.ps 3 (oJ m.1),u.r.aM] (.dT [s.1.aM, .int .i64 s.2]))
  (hK:m.2.2=0→m.2.1=true→s.2=0→aD Tryz.prog 171 [.ps 4 (syms g),t.aM,s.1.aM] (.dT [.int .i64 k.1, .int .i64 k.2]))
  (hC:m.2.2=0→m.2.1=true→s.2=0→k.2=0→k.1=1→aD Tryz.prog 172 [.ps 4 (syms g), .ps 5 (lits [⟨false,t,s.1⟩]), .ps 5 (lits c)] (.dT [.int .i64 q.1, .int .i64 q.2])) :
  aD Tryz.prog 141 [.ps 4 (syms g),u.aM,t.aM, .ps 5 (lits c)] (.dT [(oT g u t m s k q).1.aM, .bool (oT g u t m s k q).2]):=by
 refine aD.begin (rs:=[.cell 8 70, .tmp 9]) (m:=80) 1000 Tryz.func141 rfl rfl rfl (by decide) ⟨dG _,trivial,trivial⟩ ?_;have t1:=VA g u.l hl;have t2:=VA g t ht;have e1:uF 0 [.ps 4 (syms g)] (.ptr 0 0) = .pp [.ps 4 (syms g)]:=by simp [uF,yY]
 simp only [go_sem,Ff,fL];refine aG.draw [] 4 4 mixed rfl rfl (by decide) ?_;simp only [go_sem,da];refine UX (b:=0) (cs:=[.ps 4 (syms g)]) rfl t1 (by simp only [cZ];exact cx _ _ _) ⟨dG _,⟨dy _,trivial⟩,trivial⟩ rfl ?_;simp only [go_sem];refine UX (b:=0) (cs:=[.ps 4 (syms g)]) rfl t2 (by simp only [cZ];exact cx _ _ _) ⟨dG _,⟨dy _,trivial⟩,trivial⟩ rfl ?_;obtain ⟨z,hz⟩:∃ z,oT g u t m s k q=z:=⟨_,rfl⟩;rw [hz];unfold oT at hz;generalize n5 g u.l=p1 at *
 generalize n5 g t=p2 at *
 by_cases hp:p1=p2
 ·subst hp;rw [if_neg (by simp)] at hz;have Pz:(p1==p1)=true:=by simp
  simp only [go_sem,Pz];refine aG.go 1000 ?_;simp only [go_sem];refine aq.bS [] hM (by simp only [cZ];exact cx _ _ _) ⟨dG _,dG _,trivial⟩ ?_;rw [je];simp only [ite_self];refine aG.go 1000 ?_;by_cases c1:m.2.2=0
  ·cases c2:m.2.1 with
   | false =>
    rw [if_pos (.inr c2)] at hz;subst hz;simp only [go_sem,c1];rw [cZ];exact cx _ _ _
   | true =>
    rw [if_neg (by simp [c1,c2])] at hz;simp only [go_sem,c1];refine aq.bS [] (hA c1 c2) (by simp only [cZ];exact cx _ _ _) ⟨of_eq_true (FA _),dG _,trivial⟩ ?_;rw [je];simp only [ite_self];refine aG.go 1000 ?_;by_cases c3:s.2=0
    ·rw [if_neg (by simp [c3])] at hz;simp only [go_sem,c3,fL];refine aq.bS [] (hK c1 c2 c3) (by simp only [cZ];exact cx _ _ _) ⟨dy _,dG _,dG _,trivial⟩ ?_;rw [je];simp only [ite_self];refine aG.go 1000 ?_;by_cases c4:k.2=0
     ·by_cases c5:k.1=1
      ·rw [if_neg (by simp [c4,c5])] at hz;subst hz;simp only [go_sem,c4,c5];refine aq.bS [5] (hC c1 c2 c3 c4 c5) ?_ ⟨dy _,cy _,cy _,trivial⟩ ?_
       ·simp only [go_sem,lits,aK,aV];exact xa _ _ (.agg _)
       rw [show bC (ah.dT [.int .i64 q.1, .int .i64 q.2])=true from rfl]
       simp only [if_true];refine aG.go 1000 ?_;by_cases c6:q.2=0
       ·simp only [go_sem,c6,decide_true,cG,fL];rw [cZ];exact cx _ _ _
       ·simp only [go_sem,c6,decide_false,cE,fL];rw [cZ];exact cx _ _ _
      ·rw [if_pos (.inr c5)] at hz;subst hz;simp only [go_sem,c4,c5];rw [cZ];exact cx _ _ _
     ·rw [if_pos (.inl c4)] at hz;subst hz;simp only [go_sem,c4];rw [cZ];exact cx _ _ _
    ·rw [if_pos c3] at hz;subst hz;simp only [go_sem,c3,fL];rw [cZ];exact cx _ _ _
  ·rw [if_pos (.inl c1)] at hz;subst hz;simp only [go_sem,c1];rw [cZ];exact cx _ _ _
 ·rw [if_pos hp] at hz;subst hz;have Pz:(p1==p2)=false:=by simpa using hp
  simp only [go_sem,Pz];refine aG.go 1000 ?_;simp only [go_sem,cZ]
end Go.Proofs
namespace Go.Proofs
open Go Go.dm
theorem Ykm {g:List Sy} {h:Int} (h0 : 0≤h) (h1:h<g.length):Bn g h=(iV g h).arity:=by
 have hk:h.toNat<g.length:=by omega
 simp [Bn,iV,List.getD,hk]
mutual
theorem VY (g:List Sy):∀ t:Tm,t.good=true→t.known g=true→t.CV g∧t.Dy g
 | .mk h ts,hg,hk=>by
  rw [Tm.good] at hg;rw [Tm.known] at hk;simp only [aB,bw,bK,bR,decide_eq_true_eq,decide_eq_false_iff_not,db] at hg hk;rw [Tm.CV,Tm.Dy];by_cases hn:h<0
  ·have sT:ts=[]:=by
    have:=hg.1.1.1.1;rcases this with h1 | h1
    ·exact absurd hn h1
    ·exact bg (by omega)
   subst sT;exact ⟨⟨by omega,trivial⟩,fun h0=>by omega,trivial⟩
  ·rcases hk with hk | ⟨⟨k1,k2⟩,k3⟩
   ·exact absurd hk hn
   ·obtain ⟨a1,a2⟩:=TK g ts hg.2 k3;exact ⟨⟨by omega,a1⟩,fun h0=>by rw [Ykm h0 (by omega)];exact k2,a2⟩
theorem TK (g:List Sy):∀ ts:List Tm,Tm.fH ts=true→Tm.d_ g ts=true→Tm.zF g ts∧Tm.yR g ts
 | [],_,_=>⟨trivial,trivial⟩
 | t :: ts,hg,hk=>by
  rw [Tm.fH] at hg;rw [Tm.d_] at hk;simp only [aB] at hg hk;obtain ⟨a1,a2⟩:=VY g t hg.1 hk.1;obtain ⟨b1,b2⟩:=TK g ts hg.2 hk.2;exact ⟨⟨a1,b1⟩,a2,b2⟩
end
theorem ru {t:Tm} (h:t.check=0):t.size≤400∧t.depth≤40∧t.good=true:=by
 unfold Tm.check at h;by_cases h1 : 400<t.size
 ·rw [if_pos h1] at h;cases h
 ·rw [if_neg h1] at h;by_cases h2 : 40<t.depth
  ·rw [if_pos h2] at h;cases h
  ·rw [if_neg h2] at h;cases h3:t.good with
   | false=>rw [h3] at h;simp at h
   | true=>exact ⟨by omega,by omega,rfl⟩
theorem Jk {g:List Sy} {t:Tm} (h:t.term g=0) (hf:t.fit):jQ g t:=by
 obtain ⟨h1,h2,_⟩:=mg h;obtain ⟨c1,_,c3⟩:=ru h1;obtain ⟨a1,a2⟩:=VY g t c3 h2;exact ⟨by omega,a1,a2,hf⟩
theorem Yni (bs:List Bd) (N:Nat) (hN : 1≤N) (hb:∀ b∈bs,b.t.size≤N):∀ t:Tm,t.head<0→t.args=[]→(t.sub bs).size≤N
 | .mk h ts,h0,h1=>by
  rw [Rv h0,qJ];cases hf:bs.find? (fun b=>b.v == -1 - (Tm.mk h ts).head) with
  | some b=>exact hb b (cb hf)
  | none =>
   simp only [mF,eB];rw [po,h1];simp [Tm.bG];omega
mutual
theorem Mc (bs:List Bd) (N:Nat) (hN : 1≤N) (hb:∀ b∈bs,b.t.size≤N):∀ t:Tm,t.good=true→(t.sub bs).size≤t.size*N
 | .mk h ts,hg=>by
  rw [Tm.good] at hg;simp only [aB,bw,bK,decide_eq_false_iff_not,db] at hg;by_cases hn:h<0
  ·have sT:ts=[]:=by
    rcases hg.1.1.1.1 with h1 | h1
    ·exact absurd hn h1
    ·exact bg (by omega)
   have:=Yni bs N hN hb (.mk h ts) hn sT;have hs:(Tm.mk h ts).size=1:=by rw [po];simp [Tm.args,sT,Tm.bG]
   rw [hs];omega
  ·rw [Tm.sub,if_neg hn,Tm.size,Tm.size,bQ];have:=TI bs N hN hb ts hg.2;omega
theorem TI (bs:List Bd) (N:Nat) (hN : 1≤N) (hb:∀ b∈bs,b.t.size≤N):∀ ts:List Tm,Tm.fH ts=true→Tm.bG (Tm.tv bs ts)≤Tm.bG ts*N
 | [],_=>by simp [Tm.tv,Tm.bG]
 | t :: ts,hg=>by
  rw [Tm.fH] at hg;simp only [aB] at hg;rw [Tm.tv,Tm.bG,Tm.bG,bQ];have a1:=Mc bs N hN hb t hg.1;have a2:=TI bs N hN hb ts hg.2;omega
end
theorem Yrf {g:List Sy} (h:eg g=true):uG g∧g.length≤256:=by
 unfold eg at h;simp only [aB,bw,bK,decide_eq_false_iff_not,a8,cj] at h;obtain ⟨⟨⟨h1,h2⟩,h3⟩,_⟩:=h;refine ⟨fun s hs=>?_,by omega⟩;obtain ⟨i,hi,rfl⟩:=e9.1 hs;have h4:=h3 i hi;unfold jY at h4;rw [yq hi] at h4;simp only [aB,Sy.right,bw,bK,decide_eq_false_iff_not] at h4;omega
theorem Lp {g:List Sy} {t:Tm} (h:t.term g=0):eg g=true:=by
 unfold Tm.term at h;cases hs:eg g with
 | false=>rw [hs] at h;simp at h
 | true=>rfl
theorem Ud {g:List Sy} {l:Li} (hs:sD l) (hf:l.l.fit∧l.r.fit):ql g l:=⟨hs,fun h=>⟨Jk (Cd h).1 hf.1,Jk (Cd h).2 hf.2⟩⟩
theorem Ymw {t:Tm} {i:Nat} (h:i<t.args.length) (p:List Int):t.og ((i:Int) :: p)=(t.args[i]).og p:=by
 rw [Tm.og,if_neg (by omega)];simp [h]
mutual
theorem Jx:∀ (t:Tm) (q p:List Int),p∈t.im q→∃ p',p=q++p'∧p'.length<t.size∧∃ v,t.og p'=some v∧v.size≤t.size
 | .mk h ts,q,p,hp=>by
  rw [Tm.im] at hp;rcases aQ.1 hp with rfl | hp
  ·exact ⟨[],by simp,by rw [Tm.size];simp only [aS];omega,_,rfl,ae _⟩
  ·obtain ⟨j,hj,p',rfl,h1,v,h2,h3⟩:=VN ts q 0 p hp;have h4:=uD (aC hj);refine ⟨((j:Int)) :: p',by simp,?_,v,?_,?_⟩
   ·rw [Tm.size];simp only [ax];omega
   ·rw [Ymw (t:=.mk h ts) hj];exact h2
   ·rw [Tm.size];omega
theorem VN:∀ (ts:List Tm) (q:List Int) (i:Nat) (p:List Int),p∈Tm.lF ts q i→∃ (j:Nat) (hj:j<ts.length) (p':List Int),p=q++(((i+j:Nat):Int) :: p')∧p'.length<(ts[j]).size∧∃ v,(ts[j]).og p'=some v∧v.size≤(ts[j]).size
 | [],_,_,p,hp=>by rw [Tm.lF] at hp;cases hp
 | t :: ts,q,i,p,hp=>by
  rw [Tm.lF] at hp;rcases aY.1 hp with hp | hp
  ·obtain ⟨p',rfl,h1,v,h2,h3⟩:=Jx t _ p hp;exact ⟨0,by simp,p',by simp,h1,v,h2,h3⟩
  ·obtain ⟨j,hj,p',rfl,h1,v,h2,h3⟩:=VN ts q (i+1) p hp;exact ⟨j+1,by simpa using hj,p',by rw [show i+1+j=i+(j+1) by omega],by simpa using h1,v,by simpa using h2,by simpa using h3⟩
end
end Go.Proofs
namespace Go.Proofs
open Go Go.dm
attribute [local go_sem] Nat.reduceAdd Nat.reduceSub Nat.reduceMul Nat.reduceLeDiff Nat.reduceEqDiff Nat.reduceBEq Nat.reduceLT Nat.le_refl Int.natCast_zero Nat.sub_zero List.length_map Int.toNat_natCast Int.natCast_one Int.reduceEq Int.reduceLT Int.reduceLE Int.reduceNe Int.sub_zero Int.zero_add Int.toNat_one
def di (i:Nat) (rt:Bool) (t:Tm):List nE:=(t.im []).map fun p=>⟨(i:Int),rt,p,(t.og p).getD gG⟩
def lz (i:Nat) (l:Li):List nE:=di i false l.l++di i true l.r
def cJ:List Li→Nat→List nE
 | [],_=>[]
 | l :: c,i=>lz i l++cJ c (i+1)
theorem Yjq (c:List Li) (σ:ai) (hs:bD σ.length σ):aq Tryz.prog (.fn 140 [] []) [.ps 5 (lits c)] σ
  (fun r σ'=>r = .fn 165 [] [.ptr σ.length 0]∧σ' = σ++[some (.var [.ps 5 (lits c)])]):=by
 refine aq.begin (rs:=[.tmp 2]) (m:=3) 1000 Tryz.func140 rfl rfl rfl rfl rfl ?_;simp only [go_sem];rw [Cq,gC];exact ⟨_,f_ _,by simp,pS (oe (by simp) hs) ⟨⟨cy _,trivial⟩,trivial⟩,by simp [go_sem],rfl,rfl⟩
def sB (i:Nat) (l:Li) (j:Nat) (R:List nE):List nE:=if j=0 then di i false l.l++(di i true l.r++R) else if j=1 then di i true l.r++R else R
theorem Bp {N:Nat} {l:List ah} (h:bF N l):pA 9 9 l:=fun ρ er=>ry ρ N (fun b _=>er b (by omega)) l h
theorem Bq {N:Nat} {τ:ai} (h:bD N τ):uX 9 9 τ:=fun ρ er x hx=>by
 obtain ⟨i,hi⟩:=List.mem_iff_getElem?.1 hx;exact Bf ρ N (fun b _=>er b (by omega)) x (qR h i x hi)
theorem U2 (c:List Li) (ig:c.length<1000000) (hc:∀ l∈c,l.l.size≤400∧l.r.size≤400) (b0 b1 b2 b3 b4 b5 b6 b8:Option bO) (E:ai) (k0:Nat) (xP:E.length=9) (CA:bD 9 E)
  (hs:bD 9 [b0,b1,b2,b3,b4,b5,b6,some (.var [.ps 5 (lits c)]),b8])
  (hy:∀ k (h:k<(cJ c 0).length),k<k0→aq Tryz.prog (.lN 8) [(cJ c 0)[k].aM] [b0,b1,b2,b3,b4,b5,b6,some (.var [.ps 5 (lits c)]),b8] (fun r σ'=>r = .bool true∧σ'=[b0,b1,b2,b3,b4,b5,b6,some (.var [.ps 5 (lits c)]),b8]))
  (hE:∀ h:k0<(cJ c 0).length,aq Tryz.prog (.lN 8) [(cJ c 0)[k0].aM] [b0,b1,b2,b3,b4,b5,b6,some (.var [.ps 5 (lits c)]),b8] (fun r σ'=>r = .bool false∧σ'=E)) :
  aq Tryz.prog (.fn 165 [] [.ptr 7 0]) [.lN 8] [b0,b1,b2,b3,b4,b5,b6,some (.var [.ps 5 (lits c)]),b8] (fun _ σ'=>σ'=if k0<(cJ c 0).length then E else [b0,b1,b2,b3,b4,b5,b6,some (.var [.ps 5 (lits c)]),b8]):=by
 refine aq.begin (rs:=[]) (m:=52) 1000 Tryz.func165 rfl rfl rfl rfl rfl ?_;obtain ⟨SP,XM⟩:∃ SP,cJ c 0=SP:=⟨_,rfl⟩;simp only [XM] at hy hE ⊢;simp only [go_sem,fR];refine aG.cO (ι:={q:Nat×Nat // q.1≤c.length∧q.2≤k0∧SP.drop q.2=cJ (c.drop q.1) q.1}) 1000
  (fun q=>fe 54 [(0, .lN 8),(11, .ps 5 (lits c)),(12, .int .i64 c.length),(13, .int .i64 q.1.1)]) (fun _=>[b0,b1,b2,b3,b4,b5,b6,some (.var [.ps 5 (lits c)]),b8]) (fun q=>c.length - q.1.1) ⟨(0,0),by simp [XM]⟩ ?_ (fun _=>ae _) ?_
 ·simp only [go_sem,cy];exact hs
 ·rintro ⟨⟨i,k⟩,hi,hk,aN⟩;simp only at hi hk aN;by_cases bA:(i:Int)<c.length
  ·have aU:i<c.length:=by omega
   have hw:IntKind.i64.wrap ((i:Int)+1)=((i+1:Nat):Int):=by rw [dQ (by omega)];omega
   have sQ:=tz aU;have hls:=hc _ (aC aU);rw [ao aU,cJ,lz,cU] at aN;generalize c[i]=l at *
   simp only [go_sem,bA,fR,sQ,kH];refine ⟨by omega,?_⟩;obtain ⟨R,hR⟩:∃ R,cJ (c.drop (i+1)) (i+1)=R:=⟨_,rfl⟩;rw [hR] at aN;have lJ:((2:Nat):Int)=2:=rfl;refine aG.cO (ι:={q:Nat×Nat // q.1≤2∧q.2≤k0∧SP.drop q.2=sB i l q.1 R}) 1000
    (fun q=>fe 54 [(0, .lN 8),(3, .int .i64 i),(11, .ps 5 (lits c)),(12, .int .i64 c.length),(13, .int .i64 i),(22, .os 10 0 2 2),(23, .int .i64 ((2:Nat):Int)),(24, .int .i64 q.1.1)])
    (fun _=>[b0,b1,b2,b3,b4,b5,b6,some (.var [.ps 5 (lits c)]),b8,none,some (.row [.agg [.int .i64 l.l.head, .ps 2 (l.l.args.map Tm.aM)], .agg [.int .i64 l.r.head, .ps 2 (l.r.args.map Tm.aM)]] 0)]) (fun q=>2 - q.1.1) ⟨(0,k),by simp only [sB,if_true];exact ⟨by omega,hk,aN⟩⟩ ?_ (fun _=>by simp) ?_
   ·have Az:=oe (show 9≤11 by decide) hs;simp only [go_sem,cy,bW];exact pS Az ⟨trivial,⟨⟨trivial,bW _,trivial⟩,⟨trivial,bW _,trivial⟩,trivial⟩,trivial⟩
   ·rintro ⟨⟨j,k'⟩,hj,e7,sj⟩;simp only at hj e7 sj;have apE:∀ (j:Nat) (rt:Bool) (t:Tm) (T:List nE),True:=fun _ _ _ _=>trivial;obtain rfl | rfl | rfl:j=0∨j=1∨j=2:=by omega
    ·simp only [sB,if_true] at sj;have fq:=Sq l.l (by omega);simp only [go_sem,lJ,bm];refine aq.bS [] (fq) (by (try simp only [cZ]);exact cx _ _ _) (by simp [go_sem,dG,bW]) ?_;rw [je];simp only [ite_self];refine aG.go 1000 ?_
     simp only [go_sem,Ft,z_];refine aG.cO (ι:={q:Nat×Nat // q.1≤l.l.size∧q.2≤k0∧SP.drop q.2=(di i false l.l).drop q.1++(di i true l.r++R)}) 1000
      (fun q=>fe 54 [(0, .lN 8),(3, .int .i64 i),(5, .int .i64 0),(6, .ptr 11 0),(11, .ps 5 (lits c)),(12, .int .i64 c.length),(13, .int .i64 i),(22, .os 10 0 2 2),(23, .int .i64 ((2:Nat):Int)),(24, .int .i64 0),(30, .ps 1 (pv (l.l.im []))),(31, .int .i64 l.l.size),(32, .int .i64 q.1.1)])
      (fun _=>[b0,b1,b2,b3,b4,b5,b6,some (.var [.ps 5 (lits c)]),b8,none,some (.row [.agg [.int .i64 l.l.head, .ps 2 (l.l.args.map Tm.aM)], .agg [.int .i64 l.r.head, .ps 2 (l.r.args.map Tm.aM)]] 0),some (.var [.int .i64 l.l.head, .ps 2 (l.l.args.map Tm.aM)])]) (fun q=>l.l.size - q.1.1) ⟨(0,k'),by simp only [dH];exact ⟨au _,e7,sj⟩⟩ ?_ (fun _=>by simp) ?_
     ·have PG:=oe (show 9≤12 by decide) hs;simp only [go_sem,cy,bW,xH,lJ];exact pS PG ⟨trivial,⟨⟨trivial,bW _,trivial⟩,⟨trivial,bW _,trivial⟩,trivial⟩,⟨trivial,bW _,trivial⟩,trivial⟩
     ·rintro ⟨⟨n,k2⟩,hn,r9,kz⟩;simp only at hn r9 kz;by_cases pg:(n:Int)<l.l.size
      ·have Ei:n<(l.l.im []).length:=by rw [z_];omega
       have tf:IntKind.i64.wrap ((n:Int)+1)=((n+1:Nat):Int):=by rw [dQ (by omega)];omega
       have HJ:(pv (l.l.im [])).getD n .undef = .ps 1 (ints (l.l.im [])[n]):=mC Ei;obtain ⟨p',yA,hp2,v,hv,mQ⟩:=Jx l.l [] _ (aC Ei);have AB:n<(di i false l.l).length:=by simp only [di,aj];exact Ei
       have Ep:(di i false l.l)[n]=⟨(i:Int),false,(l.l.im [])[n],(l.l.og (l.l.im [])[n]).getD gG⟩:=by simp [di]
       rw [bn] at yA;rw [ao AB,Ep,yA,hv,bx] at kz;rw [yA] at HJ;have lH:=K0 l.l p' (by omega) (by omega);rw [hv,bx] at lH;simp only [go_sem,pg,Ft,z_,HJ,au];refine ⟨by omega,?_⟩;refine aq.bS [] (lH) (by (try simp only [cZ]);exact cx _ _ _) (by simp [go_sem,dG,bW,dq]) ?_;rw [je];simp only [ite_self];refine aG.go 1000 ?_
       simp only [go_sem,fL,Int.reduceEq];have BG:k2<SP.length:=by
        have:=congrArg List.length kz;simp only [cz,bp,ax] at this;omega
       rw [ao BG,bp] at kz;obtain ⟨e1,e2⟩:=ko kz;have zE:bD 13 [none,some (bO.row [.agg [.int .i64 l.l.head, .ps 2 (l.l.args.map Tm.aM)], .agg [.int .i64 l.r.head, .ps 2 (l.r.args.map Tm.aM)]] 0),some (bO.var [.int .i64 l.l.head, .ps 2 (l.l.args.map Tm.aM)]),some (bO.var [.int .i64 v.head, .ps 2 (v.args.map Tm.aM)])] :=
        ⟨trivial,⟨⟨trivial,bW _,trivial⟩,⟨trivial,bW _,trivial⟩,trivial⟩,⟨trivial,bW _,trivial⟩,⟨trivial,bW _,trivial⟩,trivial⟩
       by_cases ui:k2<k0
       ·have xm:=hy k2 BG ui;rw [e1] at xm;refine aG.rS (σ:=[b0,b1,b2,b3,b4,b5,b6,some (.var [.ps 5 (lits c)]),b8]) (τ:=[none,some (bO.row [.agg [.int .i64 l.l.head, .ps 2 (l.l.args.map Tm.aM)], .agg [.int .i64 l.r.head, .ps 2 (l.r.args.map Tm.aM)]] 0),some (bO.var [.int .i64 l.l.head, .ps 2 (l.l.args.map Tm.aM)]),some (bO.var [.int .i64 v.head, .ps 2 (v.args.map Tm.aM)])]) (.bool true) trivial (ae 9) ?_ ?_ hs (Bp (N:=13) ?_) (Bq zE) ?_ zE ?_
        ·exact cN 8
        ·exact ⟨⟨trivial,trivial,dq _,trivial,bW _,trivial⟩,trivial⟩
        ·simp [go_sem,cy,bW,dq,dG,xH]
        ·simp [go_sem,cy,bW,dq,dG,xH]
        refine xm.mono ?_;rintro r σ' ⟨rfl,rfl⟩;refine ⟨rfl,ae _,hs,fun b=>b,[b0,b1,b2,b3,b4,b5,b6,some (.var [.ps 5 (lits c)]),b8],rfl,fun _ _=>rfl,fun _ _ _ _ e=>e,?_,hs,?_⟩
        ·have:=A7 (π:=fun b=>b) (B:=[b0,b1,b2,b3,b4,b5,b6,some (.var [.ps 5 (lits c)]),b8]) (own:=[]) (τ:=[]) hs (fun _ _=>rfl) trivial;simpa using this
        ·refine aG.go 1000 ?_;simp only [go_sem];refine ⟨⟨(n+1,k2+1),by simp only;omega,by simp only;omega,by simp only;exact e2⟩,⟨by rw [tf],cy _,pS (oe (show 9≤12 by decide) hs) ⟨trivial,⟨⟨trivial,bW _,trivial⟩,⟨trivial,bW _,trivial⟩,trivial⟩,⟨trivial,bW _,trivial⟩,trivial⟩⟩,by simp only;omega⟩
       ·have O4:k2=k0:=by omega
        subst O4;have xm:=hE BG;rw [e1] at xm;refine aG.rS (σ:=[b0,b1,b2,b3,b4,b5,b6,some (.var [.ps 5 (lits c)]),b8]) (τ:=[none,some (bO.row [.agg [.int .i64 l.l.head, .ps 2 (l.l.args.map Tm.aM)], .agg [.int .i64 l.r.head, .ps 2 (l.r.args.map Tm.aM)]] 0),some (bO.var [.int .i64 l.l.head, .ps 2 (l.l.args.map Tm.aM)]),some (bO.var [.int .i64 v.head, .ps 2 (v.args.map Tm.aM)])]) (.bool false) trivial (ae 9) ?_ ?_ hs (Bp (N:=13) ?_) (Bq zE) ?_ zE ?_
        ·exact cN 8
        ·exact ⟨⟨trivial,trivial,dq _,trivial,bW _,trivial⟩,trivial⟩
        ·simp [go_sem,cy,bW,dq,dG,xH]
        ·simp [go_sem,cy,bW,dq,dG,xH]
        refine xm.mono ?_;rintro r σ' ⟨rfl,rfl⟩;refine ⟨rfl,by rw [xP];exact ae _,by rw [xP];exact CA,fun b=>b,σ',by rw [xP];rfl,fun _ _=>rfl,fun _ _ _ _ e=>e,?_,CA,?_⟩
        ·have:=A7 (π:=fun b=>b) (B:=σ') (own:=[]) (τ:=[]) (by rw [xP];exact CA) (fun _ _=>rfl) trivial;simpa using this
        ·rw [if_pos BG];refine aG.go 1000 ?_;simp only [go_sem];refine aG.go 1000 ?_;simp only [go_sem];refine aG.go 1000 ?_;simp only [go_sem];refine aG.go 1000 ?_;simp only [go_sem];rw [gC];exact ⟨σ',JS _ _,by rw [xP];exact ae _,by rw [xP];exact CA,trivial,rfl⟩
      ·have BM:n=l.l.size:=by omega
       have zr:(di i false l.l).length=l.l.size:=by simp only [di,aj];exact z_ _ _
       have e0:(di i false l.l).drop n=[]:=dP (by omega);rw [e0,bn] at kz;simp only [go_sem,pg];refine aG.go 1000 ?_;simp only [go_sem];refine ⟨⟨(1,k2),by simp only;omega,r9,by simp only [sB];simpa using kz⟩,?_,by simp only;omega⟩;exact ⟨⟨rfl,rfl⟩,cy _,pS (oe (show 9≤11 by decide) hs) ⟨trivial,⟨⟨trivial,bW _,trivial⟩,⟨trivial,bW _,trivial⟩,trivial⟩,trivial⟩⟩
    ·have sj:SP.drop k'=di i true l.r++R:=by simpa [sB] using sj
     have fq:=Sq l.r (by omega);simp only [go_sem,lJ,bm,bI];refine aq.bS [] (fq) (by (try simp only [cZ]);exact cx _ _ _) (by simp [go_sem,dG,bW]) ?_;rw [je];simp only [ite_self];refine aG.go 1000 ?_
     simp only [go_sem,Ft,z_];refine aG.cO (ι:={q:Nat×Nat // q.1≤l.r.size∧q.2≤k0∧SP.drop q.2=(di i true l.r).drop q.1++R}) 1000
      (fun q=>fe 54 [(0, .lN 8),(3, .int .i64 i),(5, .int .i64 1),(6, .ptr 11 0),(11, .ps 5 (lits c)),(12, .int .i64 c.length),(13, .int .i64 i),(22, .os 10 0 2 2),(23, .int .i64 ((2:Nat):Int)),(24, .int .i64 1),(30, .ps 1 (pv (l.r.im []))),(31, .int .i64 l.r.size),(32, .int .i64 q.1.1)])
      (fun _=>[b0,b1,b2,b3,b4,b5,b6,some (.var [.ps 5 (lits c)]),b8,none,some (.row [.agg [.int .i64 l.l.head, .ps 2 (l.l.args.map Tm.aM)], .agg [.int .i64 l.r.head, .ps 2 (l.r.args.map Tm.aM)]] 0),some (.var [.int .i64 l.r.head, .ps 2 (l.r.args.map Tm.aM)])]) (fun q=>l.r.size - q.1.1) ⟨(0,k'),by simp only [dH];exact ⟨au _,e7,sj⟩⟩ ?_ (fun _=>by simp) ?_
     ·have PG:=oe (show 9≤12 by decide) hs;simp only [go_sem,cy,bW,xH,lJ];exact pS PG ⟨trivial,⟨⟨trivial,bW _,trivial⟩,⟨trivial,bW _,trivial⟩,trivial⟩,⟨trivial,bW _,trivial⟩,trivial⟩
     ·rintro ⟨⟨n,k2⟩,hn,r9,kz⟩;simp only at hn r9 kz;by_cases pg:(n:Int)<l.r.size
      ·have Ei:n<(l.r.im []).length:=by rw [z_];omega
       have tf:IntKind.i64.wrap ((n:Int)+1)=((n+1:Nat):Int):=by rw [dQ (by omega)];omega
       have HJ:(pv (l.r.im [])).getD n .undef = .ps 1 (ints (l.r.im [])[n]):=mC Ei;obtain ⟨p',yA,hp2,v,hv,mQ⟩:=Jx l.r [] _ (aC Ei);have AB:n<(di i true l.r).length:=by simp only [di,aj];exact Ei
       have Ep:(di i true l.r)[n]=⟨(i:Int),true,(l.r.im [])[n],(l.r.og (l.r.im [])[n]).getD gG⟩:=by simp [di]
       rw [bn] at yA;rw [ao AB,Ep,yA,hv,bx] at kz;rw [yA] at HJ;have lH:=K0 l.r p' (by omega) (by omega);rw [hv,bx] at lH;simp only [go_sem,pg,Ft,z_,HJ,au];refine ⟨by omega,?_⟩;refine aq.bS [] (lH) (by (try simp only [cZ]);exact cx _ _ _) (by simp [go_sem,dG,bW,dq]) ?_;rw [je];simp only [ite_self];refine aG.go 1000 ?_
       simp only [go_sem,fL,Int.reduceEq];have BG:k2<SP.length:=by
        have:=congrArg List.length kz;simp only [cz,bp,ax] at this;omega
       rw [ao BG,bp] at kz;obtain ⟨e1,e2⟩:=ko kz;have zE:bD 13 [none,some (bO.row [.agg [.int .i64 l.l.head, .ps 2 (l.l.args.map Tm.aM)], .agg [.int .i64 l.r.head, .ps 2 (l.r.args.map Tm.aM)]] 0),some (bO.var [.int .i64 l.r.head, .ps 2 (l.r.args.map Tm.aM)]),some (bO.var [.int .i64 v.head, .ps 2 (v.args.map Tm.aM)])] :=
        ⟨trivial,⟨⟨trivial,bW _,trivial⟩,⟨trivial,bW _,trivial⟩,trivial⟩,⟨trivial,bW _,trivial⟩,⟨trivial,bW _,trivial⟩,trivial⟩
       by_cases ui:k2<k0
       ·have xm:=hy k2 BG ui;rw [e1] at xm;refine aG.rS (σ:=[b0,b1,b2,b3,b4,b5,b6,some (.var [.ps 5 (lits c)]),b8]) (τ:=[none,some (bO.row [.agg [.int .i64 l.l.head, .ps 2 (l.l.args.map Tm.aM)], .agg [.int .i64 l.r.head, .ps 2 (l.r.args.map Tm.aM)]] 0),some (bO.var [.int .i64 l.r.head, .ps 2 (l.r.args.map Tm.aM)]),some (bO.var [.int .i64 v.head, .ps 2 (v.args.map Tm.aM)])]) (.bool true) trivial (ae 9) ?_ ?_ hs (Bp (N:=13) ?_) (Bq zE) ?_ zE ?_
        ·exact cN 8
        ·exact ⟨⟨trivial,trivial,dq _,trivial,bW _,trivial⟩,trivial⟩
        ·simp [go_sem,cy,bW,dq,dG,xH]
        ·simp [go_sem,cy,bW,dq,dG,xH]
        refine xm.mono ?_;rintro r σ' ⟨rfl,rfl⟩;refine ⟨rfl,ae _,hs,fun b=>b,[b0,b1,b2,b3,b4,b5,b6,some (.var [.ps 5 (lits c)]),b8],rfl,fun _ _=>rfl,fun _ _ _ _ e=>e,?_,hs,?_⟩
        ·have:=A7 (π:=fun b=>b) (B:=[b0,b1,b2,b3,b4,b5,b6,some (.var [.ps 5 (lits c)]),b8]) (own:=[]) (τ:=[]) hs (fun _ _=>rfl) trivial;simpa using this
        ·refine aG.go 1000 ?_;simp only [go_sem];refine ⟨⟨(n+1,k2+1),by simp only;omega,by simp only;omega,by simp only;exact e2⟩,⟨by rw [tf],cy _,pS (oe (show 9≤12 by decide) hs) ⟨trivial,⟨⟨trivial,bW _,trivial⟩,⟨trivial,bW _,trivial⟩,trivial⟩,⟨trivial,bW _,trivial⟩,trivial⟩⟩,by simp only;omega⟩
       ·have O4:k2=k0:=by omega
        subst O4;have xm:=hE BG;rw [e1] at xm;refine aG.rS (σ:=[b0,b1,b2,b3,b4,b5,b6,some (.var [.ps 5 (lits c)]),b8]) (τ:=[none,some (bO.row [.agg [.int .i64 l.l.head, .ps 2 (l.l.args.map Tm.aM)], .agg [.int .i64 l.r.head, .ps 2 (l.r.args.map Tm.aM)]] 0),some (bO.var [.int .i64 l.r.head, .ps 2 (l.r.args.map Tm.aM)]),some (bO.var [.int .i64 v.head, .ps 2 (v.args.map Tm.aM)])]) (.bool false) trivial (ae 9) ?_ ?_ hs (Bp (N:=13) ?_) (Bq zE) ?_ zE ?_
        ·exact cN 8
        ·exact ⟨⟨trivial,trivial,dq _,trivial,bW _,trivial⟩,trivial⟩
        ·simp [go_sem,cy,bW,dq,dG,xH]
        ·simp [go_sem,cy,bW,dq,dG,xH]
        refine xm.mono ?_;rintro r σ' ⟨rfl,rfl⟩;refine ⟨rfl,by rw [xP];exact ae _,by rw [xP];exact CA,fun b=>b,σ',by rw [xP];rfl,fun _ _=>rfl,fun _ _ _ _ e=>e,?_,CA,?_⟩
        ·have:=A7 (π:=fun b=>b) (B:=σ') (own:=[]) (τ:=[]) (by rw [xP];exact CA) (fun _ _=>rfl) trivial;simpa using this
        ·rw [if_pos BG];refine aG.go 1000 ?_;simp only [go_sem];refine aG.go 1000 ?_;simp only [go_sem];refine aG.go 1000 ?_;simp only [go_sem];refine aG.go 1000 ?_;simp only [go_sem];rw [gC];exact ⟨σ',JS _ _,by rw [xP];exact ae _,by rw [xP];exact CA,trivial,rfl⟩
      ·have BM:n=l.r.size:=by omega
       have zr:(di i true l.r).length=l.r.size:=by simp only [di,aj];exact z_ _ _
       have e0:(di i true l.r).drop n=[]:=dP (by omega);rw [e0,bn] at kz;simp only [go_sem,pg];refine aG.go 1000 ?_;simp only [go_sem];refine ⟨⟨(2,k2),by simp only;omega,r9,by simp only [sB];simpa using kz⟩,?_,by simp only;omega⟩;exact ⟨⟨rfl,by first | rfl | exact congrArg (ah.int .i64) (dQ (n:=1+1) (by omega)).symm⟩,cy _,pS (oe (show 9≤11 by decide) hs) ⟨trivial,⟨⟨trivial,bW _,trivial⟩,⟨trivial,bW _,trivial⟩,trivial⟩,trivial⟩⟩
    ·have kz:SP.drop k'=R:=by simpa [sB] using sj
     simp only [go_sem,lJ,km];refine aG.go 1000 ?_;simp only [go_sem,hw];refine ⟨⟨(i+1,k'),by simp only;omega,e7,by simp only;rw [kz,hR]⟩,?_,by simp only;omega⟩;simp only [go_sem,cy];exact hs
  ·have dZ:i=c.length:=by omega
   subst dZ;rw [aX,cJ] at aN;have Ea:¬ k0<SP.length:=by have:=List.drop_eq_nil_iff.1 aN;omega
   rw [if_neg Ea];simp only [go_sem,bA];refine aG.go 1000 ?_;simp only [go_sem];rw [gC];exact ⟨_,f_ _,ae _,hs,trivial,rfl⟩
end Go.Proofs
namespace Go.Proofs
open Go Go.dm
def gX (T:Un→nE→Tm×Bool) (s:nE):List Un→Option (Un×Tm)
 | []=>none
 | u :: us=>if (T u s).2=true then some (u,(T u s).1) else gX T s us
def kI (T:Un→nE→Tm×Bool) (us:List Un):List nE→Option (nE×Un×Tm)
 | []=>none
 | s :: ss=>match gX T s us with
  | some x=>some (s,x)
  | none=>kI T us ss
def lG (g:List Sy) (T:Un→nE→Tm×Bool) (us:List Un) (c:List Li):List Li×Int×Bool×Int :=
 match kI T us (cJ c 0) with
 | none=>(c, -1,false,0)
 | some (s,u,t)=>if aZ g (lE c s t)=0 then (lE c s t,u.off,true,0) else ([],0,false,aZ g (lE c s t))
theorem ET (T:Un→nE→Tm×Bool) (us:List Un):∀ ss:List nE,(kI T us ss=none∧∀ s∈ss,gX T s us=none)∨∃ (k:Nat) (h:k<ss.length) (x:Un×Tm),kI T us ss=some (ss[k],x)∧gX T ss[k] us=some x∧∀ j (hj:j<ss.length),j<k→gX T ss[j] us=none
 | []=>.inl ⟨rfl,fun s h=>by cases h⟩
 | s :: ss=>by
  cases hu:gX T s us with
  | some x=>exact .inr ⟨0,by simp,x,by simp [kI,hu],by simpa using hu,fun j _ h=>by omega⟩
  | none =>
   rcases ET T us ss with ⟨h1,h2⟩ | ⟨k,h,x,h1,h2,h3⟩
   ·refine .inl ⟨by simp [kI,hu,h1],fun y hy=>?_⟩;rcases aQ.1 hy with rfl | hy
    ·exact hu
    ·exact h2 y hy
   ·refine .inr ⟨k+1,by simpa using h,x,by simp [kI,hu,h1],by simpa using h2,fun j hj X1=>?_⟩;cases j with
    | zero=>simpa using hu
    | succ j=>simpa using h3 j (by simpa using hj) (by omega)
end Go.Proofs
namespace Go.Proofs
open Go Go.dm
attribute [local go_sem] Nat.reduceAdd Nat.reduceSub Nat.reduceMul Nat.reduceLeDiff Nat.reduceEqDiff Nat.reduceBEq Nat.reduceLT Nat.le_refl Int.natCast_zero Nat.sub_zero List.length_map Int.toNat_natCast Int.natCast_one Int.reduceEq Int.reduceLT Int.reduceLE Int.reduceNe Int.sub_zero Int.zero_add Int.toNat_one
theorem Ymo (g:List Sy) (us:List Un) (c:List Li) (T:Un→nE→Tm×Bool) (ya:us.length<1000000) (ig:c.length<1000000) (hc:∀ l∈c,l.l.size≤400∧l.r.size≤400)
  (hT:∀ u∈us, ∀ s∈cJ c 0,aD Tryz.prog 141 [.ps 4 (syms g),u.aM,s.t.aM, .ps 5 (lits c)] (.dT [(T u s).1.aM, .bool (T u s).2]))
  (hP:∀ u∈us, ∀ s∈cJ c 0,aD Tryz.prog 142 [.ps 5 (lits c),s.aM,(T u s).1.aM] (.ps 5 (lits (lE c s (T u s).1))))
  (hK:∀ u∈us, ∀ s∈cJ c 0,(T u s).2=true→aD Tryz.prog 28 [.ps 4 (syms g), .ps 5 (lits (lE c s (T u s).1))] (.int .i64 (aZ g (lE c s (T u s).1)))) :
  aD Tryz.prog 109 [.ps 4 (syms g), .ps 5 (jE us), .ps 5 (lits c)] (.dT [.ps 5 (lits (lG g T us c).1), .int .i64 (lG g T us c).2.1, .bool (lG g T us c).2.2.1, .int .i64 (lG g T us c).2.2.2]):=by
 refine aD.begin (rs:=[.cell 6 24, .cell 7 3, .cell 8 4, .cell 9 29]) (m:=49) 1000 Tryz.func109 rfl rfl rfl (by decide) ⟨cy _,trivial,trivial,trivial,trivial⟩ ?_;simp only [go_sem];refine (Yjq c _ ?_).mono ?_
 ·simp [go_sem,cy,dy,tB]
 rintro _ _ ⟨rfl,rfl⟩;refine aG.go 1000 ?_;simp only [go_sem];refine aG.rangeFunc (fe 52 [(3, .ptr 0 0),(4, .ptr 1 0),(5, .ptr 2 0),(6, .ptr 3 0),(7, .ptr 4 0),(8, .ptr 5 0),(9, .ptr 6 0)]) ?_ ?_ (fun ρ ht wH lH rZ=>?_)
 ·simp only [go_sem]
 ·exact fun b hb=>by cases hb
 simp only [go_sem];have jJ:∀ n,7≤n→bF n ρ.tm:=fun n hn=>iO hn (show bF 7 ρ.tm by rw [ht];simp [go_sem,Bb,Bg]);have gx:∀ (a:ah) (b c' d:ah) (s:gJ),a.low 0→b.low 0→c'.low 0→d.low 0→bD 9 [some (bO.var [.ps 4 (syms g)]),some (bO.var [.ps 5 (jE us)]),some (bO.var [.ps 5 (lits c)]),some (bO.var [a]),some (bO.var [b]),some (bO.var [c']),some (bO.var [d]),some (bO.var [.ps 5 (lits c)]),some (bO.loop (ρ.at s))]:=fun a b c' d s h1 h2 h3 h4 =>
  ⟨⟨dy _,trivial⟩,⟨tB _,trivial⟩,⟨cy _,trivial⟩,⟨nG (au _) h1,trivial⟩,⟨nG (au _) h2,trivial⟩,⟨nG (au _) h3,trivial⟩,⟨nG (au _) h4,trivial⟩,⟨cy _,trivial⟩,jJ 9 (by decide),trivial⟩
 have wE:∀ k (h:k<(cJ c 0).length),gX T (cJ c 0)[k] us=none→aq Tryz.prog (.lN 8) [(cJ c 0)[k].aM] [some (bO.var [.ps 4 (syms g)]),some (bO.var [.ps 5 (jE us)]),some (bO.var [.ps 5 (lits c)]),some (bO.var [.aW]),some (bO.var [.int .i64 0]),some (bO.var [.bool false]),some (bO.var [.int .i64 0]),some (bO.var [.ps 5 (lits c)]),some (bO.loop (ρ.at .ready))] (fun r σ'=>r = .bool true∧σ'=[some (bO.var [.ps 4 (syms g)]),some (bO.var [.ps 5 (jE us)]),some (bO.var [.ps 5 (lits c)]),some (bO.var [.aW]),some (bO.var [.int .i64 0]),some (bO.var [.bool false]),some (bO.var [.int .i64 0]),some (bO.var [.ps 5 (lits c)]),some (bO.loop (ρ.at .ready))]):=fun k h FI=>by
  refine aq.l9 1000 ht wH lH rZ rfl rfl ?_;simp only [go_sem,Mn,ua];have jX:=aC h;have Om:∀ u∈us,aD Tryz.prog 141 [.ps 4 (syms g),u.aM,(cJ c 0)[k].t.aM, .ps 5 (lits c)] (.dT [(T u (cJ c 0)[k]).1.aM, .bool (T u (cJ c 0)[k]).2]):=fun u hu=>hT u hu _ jX;generalize (cJ c 0)[k]=sp at *
  have xX:∀ (l:List Un),gX T sp l=none→∀ u∈l,(T u sp).2=false:=fun l=>by
   induction l with
   | nil=>intro _ u hu;cases hu
   | cons a l ih =>
    intro hf u hu;rw [gX] at hf;cases ha:(T a sp).2 with
    | true=>rw [ha] at hf;simp at hf
    | false =>
     rw [ha] at hf;rcases aQ.1 hu with rfl | hu
     ·exact ha
     ·exact ih (by simpa using hf) u hu
  have jg:=gx .aW (.int .i64 0) (.bool false) (.int .i64 0) .busy trivial trivial trivial trivial;have qZ:bD 10 [some (bO.var [.ps 4 (syms g)]),some (bO.var [.ps 5 (jE us)]),some (bO.var [.ps 5 (lits c)]),some (bO.var [.aW]),some (bO.var [.int .i64 0]),some (bO.var [.bool false]),some (bO.var [.int .i64 0]),some (bO.var [.ps 5 (lits c)]),some (bO.loop (ρ.at .busy)),some (bO.var [.int .i64 sp.i, .bool sp.rt, .ps 1 (ints sp.p), .int .i64 sp.t.head, .ps 2 (sp.t.args.map Tm.aM)])] :=
   pS (oe (show 9≤10 by decide) jg) ⟨⟨trivial,trivial,dq _,trivial,bW _,trivial⟩,trivial⟩
  refine aG.cO (ι:={j:Nat // j≤us.length}) 1000 (fun q=>fe 52 [(3, .ptr 0 0),(4, .ptr 1 0),(5, .ptr 2 0),(6, .ptr 3 0),(7, .ptr 4 0),(8, .ptr 5 0),(9, .ptr 6 0),(10, .ptr 9 0),(20, .ps 5 (jE us)),(21, .int .i64 us.length),(22, .int .i64 q.1)])
   (fun _=>[some (bO.var [.ps 4 (syms g)]),some (bO.var [.ps 5 (jE us)]),some (bO.var [.ps 5 (lits c)]),some (bO.var [.aW]),some (bO.var [.int .i64 0]),some (bO.var [.bool false]),some (bO.var [.int .i64 0]),some (bO.var [.ps 5 (lits c)]),some (bO.loop (ρ.at .busy)),some (bO.var [.int .i64 sp.i, .bool sp.rt, .ps 1 (ints sp.p), .int .i64 sp.t.head, .ps 2 (sp.t.args.map Tm.aM)])])
   (fun q=>us.length - q.1) ⟨0,au _⟩ ?_ (fun _=>by simp) ?_
  ·simp only [go_sem,of_eq_true (show bF 10 (jE us)=True from eq_true (tB us))]
   exact ⟨dy _,cy _,cy _,jJ 10 (by decide),dq _,bW _⟩
  ·rintro ⟨j,hj⟩;by_cases bA:(j:Int)<us.length
   ·have aU:j<us.length:=by omega
    have hw:IntKind.i64.wrap ((j:Int)+1)=((j+1:Nat):Int):=by rw [dQ (by omega)];omega
    have Au:(jE us).getD j .undef=us[j].aM:=mC aU;have FU:=aC aU;have kO:=Om _ FU;rw [xX us FI _ FU] at kO;generalize us[j]=u at *
    simp only [go_sem,bA,ua,Au,Ff];refine ⟨by omega,?_⟩;refine aq.bS [] kO (by simp only [cZ];exact cx _ _ _) ⟨dy _,J8 u,dG _,cy _,trivial⟩ ?_;rw [je];simp only [ite_self];refine aG.go 1000 ?_;simp only [go_sem,fL,hw];refine ⟨⟨j+1,by omega⟩,?_,by simp only;omega⟩;simp only [go_sem,of_eq_true (show bF 10 (jE us)=True from eq_true (tB us))]
    exact ⟨dy _,cy _,cy _,jJ 10 (by decide),dq _,bW _⟩
   ·simp only [go_sem,bA];refine aG.go 1000 ?_;simp only [go_sem];rw [uV];exact ⟨rfl,[some (bO.var [.ps 4 (syms g)]),some (bO.var [.ps 5 (jE us)]),some (bO.var [.ps 5 (lits c)]),some (bO.var [.aW]),some (bO.var [.int .i64 0]),some (bO.var [.bool false]),some (bO.var [.int .i64 0]),some (bO.var [.ps 5 (lits c)]),some (bO.loop (ρ.at .ready))],by simp [go_sem],ae _,gx _ _ _ _ _ trivial trivial trivial trivial,rfl,rfl⟩
 rcases ET T us (cJ c 0) with ⟨f1,f2⟩ | ⟨k,hk,x,f1,f2,f3⟩
 ·refine (U2 c ig hc _ _ _ _ _ _ _ _ _ (cJ c 0).length rfl (gx .aW (.int .i64 0) (.bool false) (.int .i64 0) .ready trivial trivial trivial trivial) (gx .aW (.int .i64 0) (.bool false) (.int .i64 0) .ready trivial trivial trivial trivial) (fun k h _=>?_) (fun h=>absurd h (ji _))).mono ?_
  ·exact wE k h (f2 _ (aC h))
  ·have hF:lG g T us c=(c, -1,false,0):=by unfold lG;rw [f1]
   rintro r' jq rfl;rw [if_neg (ji _),Dv];refine ⟨.ready,rfl,?_⟩;rw [Fj,hF];refine aG.go 1000 ?_;simp only [go_sem]
 ·have jX:=aC hk;obtain ⟨z,hz⟩:∃ z,lG g T us c=z:=⟨_,rfl⟩;rw [hz];obtain ⟨a3,Am⟩:∃ a3:ah,a3=if aZ g (lE c (cJ c 0)[k] x.2)=0 then .ps 5 (lits z.1) else .aW:=⟨_,rfl⟩
  have Ou:a3.low 0:=by rw [Am];split<;>simp [go_sem,cy]
  have H7:aq Tryz.prog (.lN 8) [(cJ c 0)[k].aM] [some (bO.var [.ps 4 (syms g)]),some (bO.var [.ps 5 (jE us)]),some (bO.var [.ps 5 (lits c)]),some (bO.var [.aW]),some (bO.var [.int .i64 0]),some (bO.var [.bool false]),some (bO.var [.int .i64 0]),some (bO.var [.ps 5 (lits c)]),some (bO.loop (ρ.at .ready))] (fun r σ'=>r = .bool false∧σ'=[some (bO.var [.ps 4 (syms g)]),some (bO.var [.ps 5 (jE us)]),some (bO.var [.ps 5 (lits c)]),some (bO.var [a3]),some (bO.var [.int .i64 z.2.1]),some (bO.var [.bool z.2.2.1]),some (bO.var [.int .i64 z.2.2.2]),some (bO.var [.ps 5 (lits c)]),some (bO.loop (ρ.at (.done .ret)))]):=by
   refine aq.l9 1000 ht wH lH rZ rfl rfl ?_;simp only [go_sem,Mn,ua];have BV:z=if aZ g (lE c (cJ c 0)[k] x.2)=0 then (lE c (cJ c 0)[k] x.2,x.1.off,true,0) else ([],0,false,aZ g (lE c (cJ c 0)[k] x.2)):=by
    rw [← hz];unfold lG;rw [f1]
   have Om:∀ u∈us,aD Tryz.prog 141 [.ps 4 (syms g),u.aM,(cJ c 0)[k].t.aM, .ps 5 (lits c)] (.dT [(T u (cJ c 0)[k]).1.aM, .bool (T u (cJ c 0)[k]).2]):=fun u hu=>hT u hu _ jX;have hPs:=fun u hu=>hP u hu _ jX;have hKs:=fun u hu=>hK u hu _ jX;generalize (cJ c 0)[k]=sp at *
   have qZ:bD 10 [some (bO.var [.ps 4 (syms g)]),some (bO.var [.ps 5 (jE us)]),some (bO.var [.ps 5 (lits c)]),some (bO.var [.aW]),some (bO.var [.int .i64 0]),some (bO.var [.bool false]),some (bO.var [.int .i64 0]),some (bO.var [.ps 5 (lits c)]),some (bO.loop (ρ.at .busy)),some (bO.var [.int .i64 sp.i, .bool sp.rt, .ps 1 (ints sp.p), .int .i64 sp.t.head, .ps 2 (sp.t.args.map Tm.aM)])] :=
    pS (oe (show 9≤10 by decide) (gx .aW (.int .i64 0) (.bool false) (.int .i64 0) .busy trivial trivial trivial trivial)) ⟨⟨trivial,trivial,dq _,trivial,bW _,trivial⟩,trivial⟩
   refine aG.cO (ι:={j:Nat // j≤us.length∧gX T sp (us.drop j)=some x}) 1000 (fun q=>fe 52 [(3, .ptr 0 0),(4, .ptr 1 0),(5, .ptr 2 0),(6, .ptr 3 0),(7, .ptr 4 0),(8, .ptr 5 0),(9, .ptr 6 0),(10, .ptr 9 0),(20, .ps 5 (jE us)),(21, .int .i64 us.length),(22, .int .i64 q.1)])
    (fun _=>[some (bO.var [.ps 4 (syms g)]),some (bO.var [.ps 5 (jE us)]),some (bO.var [.ps 5 (lits c)]),some (bO.var [.aW]),some (bO.var [.int .i64 0]),some (bO.var [.bool false]),some (bO.var [.int .i64 0]),some (bO.var [.ps 5 (lits c)]),some (bO.loop (ρ.at .busy)),some (bO.var [.int .i64 sp.i, .bool sp.rt, .ps 1 (ints sp.p), .int .i64 sp.t.head, .ps 2 (sp.t.args.map Tm.aM)])])
    (fun q=>us.length - q.1) ⟨0,au _,by simpa using f2⟩ ?_ (fun _=>by simp) ?_
   ·simp only [go_sem,of_eq_true (show bF 10 (jE us)=True from eq_true (tB us))]
    exact ⟨dy _,cy _,cy _,jJ 10 (by decide),dq _,bW _⟩
   ·rintro ⟨j,hj,CL⟩;by_cases aU:j<us.length
    ·have bA:(j:Int)<us.length:=by omega
     have hw:IntKind.i64.wrap ((j:Int)+1)=((j+1:Nat):Int):=by rw [dQ (by omega)];omega
     have Au:(jE us).getD j .undef=us[j].aM:=mC aU;have FU:=aC aU;have kO:=Om _ FU;have hPu:=hPs _ FU;have XL:=hKs _ FU;rw [ao aU,gX] at CL;generalize us[j]=u at *
     simp only [go_sem,bA,ua,Au,Ff];refine ⟨by omega,?_⟩;refine aq.bS [] kO (by simp only [cZ];exact cx _ _ _) ⟨dy _,J8 u,dG _,cy _,trivial⟩ ?_;rw [je];simp only [ite_self];refine aG.go 1000 ?_;cases hq:(T u sp).2 with
     | false =>
      rw [hq] at CL;simp only [bd,if_false] at CL;simp only [go_sem,hq,fL,hw];refine ⟨⟨j+1,by omega,CL⟩,?_,by simp only;omega⟩;simp only [go_sem,of_eq_true (show bF 10 (jE us)=True from eq_true (tB us))]
      exact ⟨dy _,cy _,cy _,jJ 10 (by decide),dq _,bW _⟩
     | true =>
      rw [hq,if_pos rfl] at CL;obtain rfl:=aP CL;simp only at BV XL Am;simp only [go_sem,hq,fL];refine aq.bS [] hPu (by simp only [cZ];exact cx _ _ _) ⟨cy _,Yss sp,dG _,trivial⟩ ?_;rw [je];simp only [ite_self];refine aG.go 1000 ?_;simp only [go_sem];refine aq.bS [] (XL hq) (cx _ _ _) ⟨dy _,cy _,trivial⟩ ?_;rw [je];simp only [ite_self];refine aG.go 1000 ?_;by_cases sP:aZ g (lE c sp (T u sp).1)=0
      ·rw [if_pos sP] at BV Am;subst BV;subst Am;simp only [go_sem,sP];refine aG.draw [.no,⟨none,[],[3]⟩,⟨none,[],[3]⟩,⟨none,[3],[]⟩,⟨none,[4],[]⟩,⟨none,[5],[]⟩,⟨none,[6],[]⟩] 12 12 mixed rfl rfl (by decide) ?_;simp only [go_sem,da];refine aG.go 1000 ?_;simp only [go_sem];refine aG.go 1000 ?_;simp only [go_sem];rw [uV];exact ⟨rfl,[some (bO.var [.ps 4 (syms g)]),some (bO.var [.ps 5 (jE us)]),some (bO.var [.ps 5 (lits c)]),some (bO.var [.ps 5 (lits (lE c sp (T u sp).1))]),some (bO.var [.int .i64 u.off]),some (bO.var [.bool true]),some (bO.var [.int .i64 0]),some (bO.var [.ps 5 (lits c)]),some (bO.loop (ρ.at (.done .ret)))],by simp [go_sem],ae _,gx _ _ _ _ _ (cy _) trivial trivial trivial,rfl,rfl⟩
      ·rw [if_neg sP] at BV Am;subst BV;subst Am;simp only [go_sem,sP];refine aG.go 1000 ?_;simp only [go_sem];rw [uV];exact ⟨rfl,[some (bO.var [.ps 4 (syms g)]),some (bO.var [.ps 5 (jE us)]),some (bO.var [.ps 5 (lits c)]),some (bO.var [.aW]),some (bO.var [.int .i64 0]),some (bO.var [.bool false]),some (bO.var [.int .i64 (aZ g (lE c sp (T u sp).1))]),some (bO.var [.ps 5 (lits c)]),some (bO.loop (ρ.at (.done .ret)))],by simp [go_sem],ae _,gx _ _ _ _ _ trivial trivial trivial trivial,rfl,rfl⟩
    ·rw [dP (by omega),gX] at CL;cases CL
  refine (U2 c ig hc _ _ _ _ _ _ _ _ [some (bO.var [.ps 4 (syms g)]),some (bO.var [.ps 5 (jE us)]),some (bO.var [.ps 5 (lits c)]),some (bO.var [a3]),some (bO.var [.int .i64 z.2.1]),some (bO.var [.bool z.2.2.1]),some (bO.var [.int .i64 z.2.2.2]),some (bO.var [.ps 5 (lits c)]),some (bO.loop (ρ.at (.done .ret)))] k rfl (gx _ _ _ _ _ Ou trivial trivial trivial) (gx .aW (.int .i64 0) (.bool false) (.int .i64 0) .ready trivial trivial trivial trivial) (fun j h X1=>wE j h (f3 j h X1)) (fun _=>H7)).mono ?_;rintro r' jq rfl;rw [if_pos hk,Dv];refine ⟨.done .ret,rfl,?_⟩;rw [Yze];have sU:aZ g (lE c (cJ c 0)[k] x.2)≠0→z.1=[]:=fun eH=>by
   rw [← hz];unfold lG;rw [f1];simp only [if_neg eH]
  by_cases sP:aZ g (lE c (cJ c 0)[k] x.2)=0
  ·rw [if_pos sP] at Am;subst Am;refine aG.go 1000 ?_;simp only [go_sem]
  ·rw [if_neg sP] at Am;subst Am;rw [sU sP];refine aG.go 1000 ?_;simp only [go_sem,show lits []=[] from rfl]
def ye (g:List Sy) (us:List Un) (c:List Li) (u:List Int):ai:=[some (.var [.ps 4 (syms g)]),some (.var [.ps 5 (lits c)]),some (.var [jk 4 1 (ints u)]),some (.var [.ps 5 (jE us)]),fx (ints u)]
def Qc (g:List Sy) (us:List Un) (c:List Li) (u:List Int):ai:=[some (.var [.ps 4 (syms g)]),some (.var [.ps 5 (lits c)]),some (.var [jk 6 1 (ints u)]),some (.var [.ps 5 (jE us)]),none,none,fx (ints u)]
theorem Yrd (g:List Sy) (us:List Un) (c:List Li) (u:List Int) (z:List Li×Int×Bool×Int) (hu:u.length<1000000)
  (hS:aD Tryz.prog 109 [.ps 4 (syms g), .ps 5 (jE us), .ps 5 (lits c)] (.dT [.ps 5 (lits z.1), .int .i64 z.2.1, .bool z.2.2.1, .int .i64 z.2.2.2])) :
  aq Tryz.prog (.fn 108 [] [.ptr 0 0, .ptr 3 0, .ptr 1 0, .ptr 2 0]) [] (ye g us c u)
   (fun r σ'=>r = .dT [.bool z.2.2.1, .int .i64 z.2.2.2]∧σ'=if z.2.2.2=0∧z.2.2.1=true then Qc g us z.1 (u++[z.2.1]) else ye g us c u):=by
 unfold ye;refine aq.begin (rs:=[.tmp 4, .tmp 5]) (m:=27) 1000 Tryz.func108 rfl rfl rfl rfl rfl ?_;simp only [go_sem];refine aq.bS [] hS (cx _ _ _) ⟨dy _,tB _,cy _,trivial⟩ ?_;rw [je];simp only [ite_self];refine aG.go 1000 ?_;have ky:bD 5 (ye g us c u):=by
  unfold ye;simp [go_sem,dy,cy,tB,dq]
 by_cases h1:z.2.2.2=0
 ·cases h2:z.2.2.1 with
  | true =>
   have v8:bP [some (bO.var [ah.ps 4 (syms g)]),some (bO.var [ah.ps 5 (lits c)]),some (bO.var [jk 4 1 (ints u)]),some (bO.var [ah.ps 5 (jE us)]),fx (ints u),some (bO.row [ah.int .i64 z.2.1] 0)] 4=fx (ints u):=by simp [bP]
   simp only [go_sem,h1,vX v8,eW,aL,forall_eq,a_,ae,iZ];refine ⟨by omega,?_⟩;rw [gC];unfold Qc;rw [Cp,wo (by simp),wm (by simp),iZ];refine ⟨_,?_,by simp,?_,by simp [go_sem],rfl,rfl⟩
   ·simp [iP]
   ·simp [go_sem,dy,cy,tB];rw [LY];exact dq _
  | false =>
   simp only [go_sem,h1];rw [gC];exact ⟨_,f_ _,by simp,ky,by simp [go_sem],rfl,rfl⟩
 ·simp only [go_sem,h1];rw [gC];exact ⟨_,f_ _,by simp,ky,by simp [go_sem],rfl,rfl⟩
def eY (S:List Li→List Li×Int×Bool×Int):Nat→List Li→List Int→List Li×List Int×Int
 | 0,_,_=>([],[],9)
 | n+1,c,u=>if (S c).2.2.2≠0 then ([],[],(S c).2.2.2) else if (S c).2.2.1=false then (c,u,0) else if 200<u.length+1 then ([],[],9) else eY S n (S c).1 (u++[(S c).2.1])
theorem Wp (S:List Li→List Li×Int×Bool×Int):∀ n c u,u.length≤200→(eY S n c u).2.1.length≤200
 | 0,_,_,_=>au _
 | n+1,c,u,hu=>by
  rw [eY];split
  ·exact au _
  split
  ·exact hu
  split
  ·exact au _
  ·exact Wp S n _ _ (by rw [az];simp only [ax,aS];omega)
def gH (w:Int) (S:List Li→List Li×Int×Bool×Int) (c:List Li):List Li×List Int×Int:=if w≠0 then ([],[],w) else eY S 201 c []
theorem Yh7 (g:List Sy) (es:List (List Li)) (us:List Un) (c:List Li) (w:Int) (S:List Li→List Li×Int×Bool×Int) (I:List Li→Prop)
  (hW:aD Tryz.prog 106 [.ps 4 (syms g), .ps 1 (dp es), .ps 5 (lits c)] (.int .i64 w))
  (hU:w=0→aD Tryz.prog 107 [.ps 1 (dp es)] (.ps 5 (jE us)))
  (hI:w=0→I c) (hII:∀ d,I d→(S d).2.2.2=0→(S d).2.2.1=true→I (S d).1)
  (hS:∀ d,I d→aD Tryz.prog 109 [.ps 4 (syms g), .ps 5 (jE us), .ps 5 (lits d)] (.dT [.ps 5 (lits (S d).1), .int .i64 (S d).2.1, .bool (S d).2.2.1, .int .i64 (S d).2.2.2])) :
  aD Tryz.prog 68 [.ps 4 (syms g), .ps 1 (dp es), .ps 5 (lits c)] (.dT [.ps 5 (lits (gH w S c).1), .ps 1 (ints (gH w S c).2.1), .int .i64 (gH w S c).2.2]):=by
 refine aD.begin (rs:=[.tmp 6, .tmp 7, .tmp 8]) (m:=40) 1000 Tryz.func68 rfl rfl rfl (by decide) ⟨cy _,dq _,trivial,trivial⟩ ?_;simp only [go_sem];refine aq.bS [] hW (cx _ _ _) ⟨dy _,fO _,cy _,trivial⟩ ?_;simp only [bC,bN,bL,if_true];refine aG.go 1000 ?_;by_cases h0:w=0
 ·subst h0;have hF:gH 0 S c=eY S 201 c []:=by simp [gH]
  rw [hF];obtain ⟨Z,hZ⟩:∃ Z,eY S 201 c []=Z:=⟨_,rfl⟩;rw [hZ];simp only [go_sem];refine aq.bS [] (hU rfl) (cx _ _ _) ⟨fO _,trivial⟩ ?_;rw [je];simp only [ite_self];refine aG.go 1000 ?_;simp only [go_sem];have ky:∀ (d:List Li) (u:List Int),bD 5 (ye g us d u):=fun d u=>by
   unfold ye;simp [go_sem,dy,cy,tB,dq]
  refine aG.gf (ι:={q:List Li×List Int // I q.1∧q.2.length≤200∧eY S (201 - q.2.length) q.1 q.2=Z}) 1000
   (fun _=>fe 43 [(5, .ptr 1 0),(6, .aW),(7, .aW),(8, .int .i64 0),(10, .ptr 2 0),(12, .fn 108 [] [.ptr 0 0, .ptr 3 0, .ptr 1 0, .ptr 2 0])])
   (fun q=>ye g us q.1.1 q.1.2) (fun q=>201 - q.1.2.length) ⟨(c,[]),hI rfl,by simp,hZ⟩ [] ?_ (fun _=>by simp [ye]) ?_
  ·refine iz rfl ?_;unfold ye;simp only [go_sem,Af,s_,sM,dy,cy,tB,cK (dy _),cK (cy _),cK (tB _)]
  ·rintro ⟨⟨d,u⟩,r8,hu,hn⟩;simp only at r8 hu hn;have FO:=Yrd g us d u (S d) (by omega) (hS d r8);have Ps : 201 - u.length=(200 - u.length)+1:=by omega
   rw [Ps,eY] at hn;obtain ⟨z,hz⟩:∃ z,S d=z:=⟨_,rfl⟩;have fD:=hII d r8;rw [hz] at hn FO fD;simp only [go_sem];refine FO.mono ?_;rintro r σ' ⟨rfl,rfl⟩;by_cases h1:z.2.2.2=0
   ·cases h2:z.2.2.1 with
    | true =>
     rw [if_neg (by simp [h1]),if_neg (by simp [h2])] at hn;rw [if_pos ⟨h1,rfl⟩];unfold Qc;rw [Cp,wo (by simp),wm (by simp),iZ,h1];refine aG.go 1000 ?_;simp only [go_sem];by_cases h3 : 200<((u.length+1:Nat):Int)
     ·simp only [go_sem,h3];rw [if_pos (by omega)] at hn;subst hn;refine aG.go 1000 ?_;simp only [go_sem];exact ⟨rfl,rfl⟩
     ·simp only [go_sem,h3];rw [if_neg (by omega)] at hn;have ya:(u++[z.2.1]).length=u.length+1:=by simp
      refine ⟨⟨(z.1,u++[z.2.1]),fD h1 h2,by rw [ya];omega,by rw [ya,show 201 - (u.length+1)=200 - u.length by omega];exact hn⟩,[(4,6),(6,4)],iz rfl ?_,by simp only [ya];omega⟩;unfold ye;have lw:bF 0 (ints (u++[z.2.1])):=dq _;rw [Cp] at lw;simp only
      rw [Cp,wo (by simp),wm (by simp),iZ];simp only [go_sem,dy,cy,tB,cK (dy _),cK (cy _),cK (tB _),cK lw,iO (au _) lw]
    | false =>
     rw [if_neg (by simp [h1]),if_pos h2] at hn;rw [if_neg (by simp),h1];subst hn;unfold ye;refine aG.go 1000 ?_;simp only [go_sem];refine aG.draw [] 5 5 mixed rfl rfl (by decide) ?_;simp only [go_sem,da];refine aG.go 1000 ?_;simp only [go_sem];refine aG.go 1000 ?_;simp only [go_sem,rO]
   ·rw [if_pos h1] at hn;rw [if_neg (by simp [h1])];subst hn;unfold ye;refine aG.go 1000 ?_;simp only [go_sem,h1];refine aG.go 1000 ?_;simp only [go_sem,h1];exact ⟨rfl,rfl⟩
 ·have hF:gH w S c=([],[],w):=by simp [gH,h0]
  rw [hF];simp only [go_sem,h0];exact ⟨rfl,rfl⟩
end Go.Proofs
namespace Go.Proofs
open Go Go.dm
theorem GN {P:Tm→Prop} (hP:∀ t,P t→∀ u∈t.args,P u):∀ (p:List Int) (t v:Tm),P t→t.og p=some v→P v
 | [],t,v,h,e=>by rw [Tm.og] at e;cases e;exact h
 | n :: p,t,v,h,e=>by
  rw [Tm.og] at e;split at e
  ·cases e
  split at e
  ·rename_i h2;exact GN hP p _ v (hP t h _ (aC h2)) e
  ·cases e
theorem Ys9 {P:Tm→Prop} (hP:∀ t,P t→∀ u∈t.args,P u):∀ (s:List (Tm×Tm)) (m m':List Bd),gU s m=some m'→(∀ x∈s,P x.2)→(∀ b∈m,P b.t)→∀ b∈m',P b.t:=by
 intro s m
 induction s,m using gU.induct with
 | case1 m =>
  intro m' h h1 h2;rw [gU] at h;cases h;exact h2
 | case2 x r m hv c hf he ih =>
  intro m' h h1 h2;rw [gU,if_pos hv,hf] at h;simp only [if_pos he] at h;exact ih m' h (fun y hy=>h1 y (by simp [hy])) h2
 | case3 x r m hv c hf he =>
  intro m' h;rw [gU,if_pos hv,hf] at h;simp only [if_neg he] at h;cases h
 | case4 x r m hv hf ih =>
  intro m' h h1 h2;rw [gU,if_pos hv,hf] at h;simp only at h;refine ih m' h (fun y hy=>h1 y (by simp [hy])) (fun b hb=>?_);rcases aY.1 hb with hb | hb
  ·exact h2 b hb
  ·rw [aL.1 hb];exact h1 x (by simp)
 | case5 x r m hv hc =>
  intro m' h;rw [gU,if_neg hv,if_pos hc] at h;cases h
 | case6 x r m hv hc ih =>
  intro m' h h1 h2;rw [gU,if_neg hv,if_neg hc] at h;refine ih m' h (fun y hy=>?_) h2;rcases aY.1 hy with hy | hy
  ·have hy:=dn.1 hy;exact hP x.2 (h1 x (by simp)) _ (dx hy).2
  ·exact h1 y (by simp [hy])
theorem Yjc {P:Tm→Prop} {m:List Bd} (h:∀ b∈m,P b.t) (ks:List Int):∀ b∈jx m ks,P b.t:=fun b hb=>by
 unfold jx at hb;obtain ⟨v,_,hv⟩:=List.mem_filterMap.1 hb;cases hf:m.find? (fun c=>c.v==v) with
 | none=>rw [hf] at hv;cases hv
 | some c =>
  rw [hf] at hv;simp only at hv;split at hv
  ·cases hv
  ·cases hv;exact h c (cb hf)
theorem Yes (m:List Bd) (ks:List Int):(jx m ks).length≤ks.length:=List.length_filterMap_le _ _
theorem V_ {P:Tm→Prop} (hP:∀ t,P t→∀ u∈t.args,P u) {a b:Tm} (hb:P b):∀ x∈(ij [a] [b]).1,P x.t:=by
 unfold ij;split
 ·intro x hx;cases hx
 ·split
  ·intro x hx;cases hx
  ·rename_i m hm;exact Yjc (Ys9 hP _ _ _ hm (fun x hx=>by
    simp only [iY,List.zip_nil_right,oI,lZ,bn,aL] at hx;subst hx;exact hb) (fun b hb=>by cases hb)) _
def EN (t:Tm):Prop:=t.fit∧t.size≤400
theorem JI:∀ t,EN t→∀ u∈t.args,EN u:=fun t h u hu=>by
 have h1:=uD hu;have h2:=po t;exact ⟨xF (yo h.1) u hu,by have:=h.2;omega⟩
theorem Ye5 (g:List Sy):∀ t,jQ g t→∀ u∈t.args,jQ g u:=fun t h u hu=>MF h hu
theorem Yu6:∀ (s:List (Tm×Tm)) (m m':List Bd),gU s m=some m'→m'.length≤m.length+lU s:=by
 intro s m
 induction s,m using gU.induct with
 | case1 m =>
  intro m' h;rw [gU] at h;cases h;omega
 | case2 x r m hv c hf he ih =>
  intro m' h;rw [gU,if_pos hv,hf] at h;simp only [if_pos he] at h;have:=ih m' h;simp only [lU];omega
 | case3 x r m hv c hf he =>
  intro m' h;rw [gU,if_pos hv,hf] at h;simp only [if_neg he] at h;cases h
 | case4 x r m hv hf ih =>
  intro m' h;rw [gU,if_pos hv,hf] at h;simp only at h;have:=ih m' h;have hp:=A5 x.1;simp only [lU,az,ax,aS] at this ⊢;omega
 | case5 x r m hv hc =>
  intro m' h;rw [gU,if_neg hv,if_pos hc] at h;cases h
 | case6 x r m hv hc ih =>
  intro m' h;rw [gU,if_neg hv,if_neg hc] at h;have:=ih m' h;have h2:=GC x.1 x.2 r;simp only [lU];omega
theorem Yli (a b:Tm):(ij [a] [b]).1.length≤a.size:=by
 unfold ij;split
 ·exact au _
 ·split
  ·exact au _
  ·rename_i m hm;have h1:=Yu6 _ _ _ hm;have h2:=Yes m (gO (m.map Bd.v));rw [Fb,aj] at h2;simp only [iY,List.zip_nil_right,oI,lZ,bn,lU,aS] at h1 ⊢;omega
mutual
theorem Rs {bs:List Bd} (hb:∀ b∈bs,b.t.fit):∀ t:Tm,t.fit→(t.sub bs).fit
 | .mk h ts,hf=>by
  rw [Tm.sub];split
  ·unfold qJ;cases hq:bs.find? (fun b=>b.v == -1 - (Tm.mk h ts).head) with
   | some b=>exact hb b (cb hq)
   | none=>exact hf
  ·exact ⟨hf.1,W0 hb ts hf.2⟩
theorem W0 {bs:List Bd} (hb:∀ b∈bs,b.t.fit):∀ ts:List Tm,Tm.fits ts→Tm.fits (Tm.tv bs ts)
 | [],_=>trivial
 | t :: ts,hf=>⟨Rs hb t hf.1,W0 hb ts hf.2⟩
end
def mT (u:Un) (t:Tm):List Bd×Bool×Int:=ij [u.l] [t]
def aT (u:Un) (t:Tm):Tm×Int:=qW (mT u t).1 u.r
def kT (g:List Sy) (u:Un) (t:Tm):Int×Int:=(if fc g [t,(aT u t).1]=0 then eG g t (aT u t).1 else 0,fc g [t,(aT u t).1])
def qT (g:List Sy) (u:Un) (t:Tm) (c:List Li):Int×Int:=pC g [⟨false,t,(aT u t).1⟩] c
def iM (g:List Sy) (c:List Li) (u:Un) (t:Tm):Tm×Bool:=oT g u t (mT u t) (aT u t) (kT g u t) (qT g u t c)
def TT (g:List Sy) (c:List Li) (u:Un) (s:nE):Tm×Bool:=iM g c u s.t
theorem U1:gG.fit:=by unfold gG;exact ⟨by unfold mE;omega,trivial⟩
def jd (g:List Sy) (t:Tm):Prop:=t.term g=0∧t.fit
theorem p5 {g:List Sy} {t:Tm} (h:jd g t):EN t:=⟨h.2,(ru (mg h.1).1).1⟩
theorem J6 {g:List Sy} {t:Tm} (h:jd g t):jQ g t:=Jk h.1 h.2
theorem K6 {g:List Sy} {u:Un} {t:Tm} (hr:jd g u.r) (ht:EN t):(aT u t).1.fit∧(aT u t).1.size≤160000:=by
 have hb:=V_ JI (a:=u.l) ht;unfold aT qW;split
 ·exact ⟨U1,by unfold gG;simp [Tm.size,Tm.bG]⟩
 split
 ·have hg:=(ru (mg hr.1).1).2.2;have h1:=(ru (mg hr.1).1).1;have h2:=Mc (mT u t).1.reverse 400 (by omega) (fun b nN=>(hb b (dn.1 nN)).2) u.r hg;refine ⟨Rs (fun b nN=>(hb b (dn.1 nN)).1) u.r hr.2,?_⟩;have h3:=bf 400 h1;simp only at h2 ⊢;omega
 ·exact ⟨U1,by unfold gG;simp [Tm.size,Tm.bG]⟩
theorem Yka {g:List Sy} {u:Un} {t:Tm} {m:List Bd×Bool×Int} {s:Tm×Int} {k q:Int×Int}:(oT g u t m s k q).1=t∨(oT g u t m s k q).1=s.1:=by
 unfold oT
 repeat' split
 all_goals simp
theorem Xm {g:List Sy} {c:List Li} {u:Un} {t:Tm} (hr:jd g u.r) (ht:EN t):(iM g c u t).1.fit∧(iM g c u t).1.size≤160000:=by
 unfold iM;rcases Yka (g:=g) (u:=u) (t:=t) (m:=mT u t) (s:=aT u t) (k:=kT g u t) (q:=qT g u t c) with h | h
 ·rw [h];exact ⟨ht.1,by have:=ht.2;omega⟩
 ·rw [h];exact K6 hr ht
theorem Yns (g:List Sy) (vC:eg g=true) (u:Un) (t:Tm) (c:List Li) (hl:jd g u.l) (hr:jd g u.r) (ht:jQ g t) (sT:EN t) (FG:c≠[]) (ig:c.length≤400000) (hc:∀ l∈c,ql g l) :
  aD Tryz.prog 141 [.ps 4 (syms g),u.aM,t.aM, .ps 5 (lits c)] (.dT [(iM g c u t).1.aM, .bool (iM g c u t).2]):=by
 obtain ⟨hg,lK⟩:=Yrf vC;have BI:=p5 hl;have nP:=p5 hr;have hb:=V_ JI (a:=u.l) sT;have ha:=K6 hr sT (u:=u);refine Yh6 g u t c (mT u t) (aT u t) (kT g u t) (qT g u t c) (GK (J6 hl).2.1) (GK ht.2.1) ?_ (fun _ _=>?_) (fun _ _ _=>?_) (fun _ _ _ _ _=>?_)
 ·exact Yjb u.l t (by have:=BI.2;omega) (by have:=sT.2;omega) BI.1 sT.1
 ·have hlen:=Yli u.l t;refine Yj7 _ u.r (by have:=BI.2;unfold mT;omega) (fun b h=>by have:=(hb b h).2;omega) (by have:=nP.2;omega) nP.1 ?_;have v8:=(ru (mg hr.1).1).2.2;have h2:=Mc (mT u t).1.reverse 400 (by omega) (fun b nN=>(hb b (dn.1 nN)).2) u.r v8;have h3:=bf 400 nP.2;omega
 ·refine Zvx g hg (by omega) t (aT u t).1 (by have:=sT.2;omega) (by have:=ha.2;omega) (fun h=>⟨ht,?_⟩);refine Jk (g:=g) ?_ ha.1;rw [fc] at h;split at h
  ·rw [fc] at h;split at h
   ·assumption
   ·rename_i h1 h2;exact absurd h h2
  ·rename_i h1;exact absurd h h1
 ·refine Zvn g hg (by omega) _ c (by simp) FG (by simp) (by omega) (fun x hx=>?_) hc;rw [aL.1 hx];exact Ud ⟨by have:=sT.2;simp only;omega,by have:=ha.2;simp only;omega⟩ ⟨sT.1,ha.1⟩
theorem SM {i:Nat} {rt:Bool} {t:Tm} {s:nE} (h:s∈di i rt t):s.i=i∧s.rt=rt∧t.og s.p=some s.t∧s.p.length<t.size:=by
 unfold di at h;obtain ⟨p,hp,rfl⟩:=cB.1 h;obtain ⟨p',rfl,h1,v,h2,_⟩:=Jx t [] p hp;refine ⟨rfl,rfl,?_,by simpa using h1⟩;simp only [bn,h2,bx]
theorem Dc:∀ (c:List Li) (i:Nat) (s:nE),s∈cJ c i→∃ (j:Nat) (h:j<c.length),s.i=((i+j:Nat):Int)∧((c[j]).side s.rt).og s.p=some s.t∧s.p.length<((c[j]).side s.rt).size
 | [],_,_,h=>by rw [cJ] at h;cases h
 | l :: c,i,s,h=>by
  rw [cJ] at h;rcases aY.1 h with h | h
  ·refine ⟨0,by simp,?_⟩;unfold lz at h;rcases aY.1 h with h | h
   ·obtain ⟨h1,h2,h3,h4⟩:=SM h;simp only [ez,Li.side,h2];exact ⟨h1,by simpa using h3,by simpa using h4⟩
   ·obtain ⟨h1,h2,h3,h4⟩:=SM h;simp only [ez,Li.side,h2];exact ⟨h1,by simpa using h3,by simpa using h4⟩
  ·obtain ⟨j,hj,h1,h2,h3⟩:=Dc c (i+1) s h;exact ⟨j+1,by simpa using hj,by rw [h1];omega,by simpa using h2,by simpa using h3⟩
def iN (g:List Sy) (c:List Li):Prop:=aZ g c=0∧∀ l∈c,l.l.fit∧l.r.fit
theorem w8 {g:List Sy} {c:List Li} (h:aZ g c=0):eg g=true∧c.length≤32∧∀ l∈c,l.check g=0:=by
 unfold aZ at h;split at h
 ·cases h
 split at h
 ·cases h
 rename_i h1 h2;refine ⟨by simpa using h1,by omega,?_⟩;have key:∀ c:List Li,dh g c=0→∀ l∈c,l.check g=0:=by
  intro c
  induction c with
  | nil=>intro _ l hl;cases hl
  | cons a c ih =>
   intro h l hl;rw [dh] at h;split at h
   ·rename_i h3;exact absurd h h3
   ·rename_i h3;rcases aQ.1 hl with rfl | hl
    ·simpa using h3
    ·exact ih h l hl
 exact key c h
theorem uE {g:List Sy} {c:List Li} (h:iN g c) {l:Li} (hl:l∈c):jd g l.l∧jd g l.r:=by
 have h1:=Cd ((w8 h.1).2.2 l hl);have h2:=h.2 l hl;exact ⟨⟨h1.1,h2.1⟩,h1.2,h2.2⟩
theorem Gv {g:List Sy} {c:List Li} (h:iN g c) {l:Li} (hl:l∈c) (b:Bool):jd g (l.side b):=by
 unfold Li.side;split
 ·exact (uE h hl).2
 ·exact (uE h hl).1
theorem Ynb {g:List Sy} {c:List Li} (h:iN g c):∀ l∈c,ql g l:=fun l hl=>by
 obtain ⟨h1,h2⟩:=uE h hl;have s1:=p5 h1;have s2:=p5 h2;exact Ud ⟨by have:=s1.2;omega,by have:=s2.2;omega⟩ ⟨s1.1,s2.1⟩
theorem WK {u:Tm} (hu:u.fit):∀ (ts:List Tm) (i:Nat),Tm.fits ts→Tm.fits (ts.set i u)
 | [],_,h=>h
 | t :: ts,0,h=>⟨hu,h.2⟩
 | t :: ts,i+1,h=>⟨h.1,WK hu ts i h.2⟩
theorem Uh (u:Tm):∀ (ts:List Tm) (i:Nat) (h:i<ts.length),Tm.bG (ts.set i u)+(ts[i]).size=Tm.bG ts+u.size
 | t :: ts,0,_=>by simp only [dc,Tm.bG,ez];omega
 | t :: ts,i+1,h=>by simp only [cW,Tm.bG,dj];have:=Uh u ts i (by simpa using h);omega
theorem Rt:∀ (p:List Int) (t u v:Tm),t.og p=some v→t.fit→u.fit→(t.jD p u).fit∧(t.jD p u).size+v.size=t.size+u.size
 | [],t,u,v,h,ht,hu=>by rw [Tm.og] at h;cases h;rw [Tm.jD];exact ⟨hu,by omega⟩
 | n :: p,t,u,v,h,ht,hu=>by
  rw [Tm.og] at h;split at h
  ·cases h
  split at h
  ·rename_i h1 h2;have hm:=aC h2;have hg:t.args.getD n.toNat gG=t.args[n.toNat]:=by simp [List.getD,h2]
   obtain ⟨a1,a2⟩:=Rt p _ u v h (xF (yo ht) _ hm) hu;rw [Tm.jD,hg];refine ⟨⟨GG ht,WK a1 _ _ (yo ht)⟩,?_⟩;have h3:=Uh ((t.args[n.toNat]).jD p u) t.args n.toNat h2;have h4:=po t;rw [Tm.size];omega
  ·cases h
theorem Yrh {c:List Li} {i:Nat} {u:Un} (h:u∈wi c i):∃ l:Li,[l]=c∧((u.l=l.l∧u.r=l.r)∨(u.l=l.r∧u.r=l.l)):=by
 unfold wi at h;split at h
 ·split at h
  ·cases h
  ·simp only [aQ,dW,or_false] at h;rcases h with rfl | rfl
   ·exact ⟨_,rfl, .inl ⟨rfl,rfl⟩⟩
   ·exact ⟨_,rfl, .inr ⟨rfl,rfl⟩⟩
 ·cases h
theorem W7 {u:Un}:∀ (es:List (List Li)) (i:Nat),u∈kJ es i→∃ l:Li,[l]∈es∧((u.l=l.l∧u.r=l.r)∨(u.l=l.r∧u.r=l.l))
 | [],i,h=>by rw [kJ] at h;cases h
 | c :: es,i,h=>by
  rw [kJ] at h;rcases aY.1 h with h | h
  ·obtain ⟨l,h1,h2⟩:=Yrh h;exact ⟨l,by simp [h1],h2⟩
  ·obtain ⟨l,h1,h2⟩:=W7 es (i+1) h;exact ⟨l,cR _ h1,h2⟩
theorem Zwp {es:List (List Li)} {u:Un} (h:u∈cm es):∃ l:Li,[l]∈es∧((u.l=l.l∧u.r=l.r)∨(u.l=l.r∧u.r=l.l)):=by
 unfold cm at h;exact W7 es 0 (qB.1 h).1
theorem WA:∀ (es:List (List Li)) (i:Nat),(kJ es i).length≤2*es.length
 | [],_=>by rw [kJ];exact ae _
 | c :: es,i=>by
  rw [kJ,az];have:=Yrb c i;have:=WA es (i+1);simp only [ax];omega
theorem Zux (es:List (List Li)):(cm es).length≤2*es.length:=by
 have:=WA es 0;have h2:(cm es).length≤(kJ es 0).length:=List.length_filter_le _ _;omega
theorem EV {g:List Sy}:∀ {l:List (List Li)},cQ g l=0→∀ c∈l,aZ g c=0
 | [],_,c,hc=>by cases hc
 | a :: l,h,c,hc=>by
  rw [cQ] at h;split at h
  ·rename_i h1;exact absurd h h1
  ·rename_i h1;rcases aQ.1 hc with rfl | hc
   ·simpa using h1
   ·exact EV h c hc
def qe (c:List Li):Prop:=∀ l∈c,l.l.fit∧l.r.fit
theorem TJ {g:List Sy} {es:List (List Li)} (hc:∀ c∈es,aZ g c=0) (hf:∀ c∈es,qe c) {u:Un} (h:u∈cm es):jd g u.l∧jd g u.r:=by
 obtain ⟨l,h1,h2⟩:=Zwp h;have h3:=uE (g:=g) (c:=[l]) ⟨hc _ h1,hf _ h1⟩ (aL.2 rfl);rcases h2 with ⟨e1,e2⟩ | ⟨e1,e2⟩
 ·rw [e1,e2];exact h3
 ·rw [e1,e2];exact ⟨h3.2,h3.1⟩
theorem NI {c:List Li} {s:nE} {i:Nat} (h:i<c.length) (hi:s.i=i) (u:Tm):lE c s u=c.set i (c[i].sy s.rt ((c[i].side s.rt).jD s.p u)):=by
 have:s.i.toNat=i:=by omega
 unfold lE;rw [this,av h]
theorem Wh {g:List Sy} {c:List Li} (hc:iN g c) {s:nE} (hs:s∈cJ c 0) {u:Tm} (hu:u.fit):qe (lE c s u)∧∀ l∈lE c s u,l.l.size≤400+u.size∧l.r.size≤400+u.size:=by
 obtain ⟨j,hj,h1,h2,h3⟩:=Dc c 0 s hs;rw [bq] at h1;have hm:=aC hj;have vB:=Gv hc hm s.rt;obtain ⟨p1,p2⟩:=Rt s.p _ u s.t h2 vB.2 hu;have hss:=(p5 vB).2;have ou:=A5 s.t;rw [NI hj h1];have key:∀ l∈c.set j (c[j].sy s.rt ((c[j].side s.rt).jD s.p u)),(l.l.fit∧l.r.fit)∧l.l.size≤400+u.size∧l.r.size≤400+u.size:=fun l hl=>by
  rcases od hl with hl | rfl
  ·obtain ⟨a1,a2⟩:=uE hc hl;have b1:=(p5 a1).2;have b2:=(p5 a2).2;exact ⟨⟨a1.2,a2.2⟩,by omega,by omega⟩
  ·obtain ⟨a1,a2⟩:=uE hc hm;have b1:=(p5 a1).2;have b2:=(p5 a2).2;unfold Li.sy;split
   ·exact ⟨⟨a1.2,p1⟩,by simp only;omega,by simp only;omega⟩
   ·exact ⟨⟨p1,a2.2⟩,by simp only;omega,by simp only;omega⟩
 exact ⟨fun l hl=>(key l hl).1,fun l hl=>(key l hl).2⟩
def dN (g:List Sy) (us:List Un) (c:List Li):List Li×Int×Bool×Int:=lG g (TT g c) us c
theorem Ypz (g:List Sy) (us:List Un) (c:List Li) (ya:us.length<1000000) (hu:∀ u∈us,jd g u.l∧jd g u.r) (hc:iN g c) :
  aD Tryz.prog 109 [.ps 4 (syms g), .ps 5 (jE us), .ps 5 (lits c)] (.dT [.ps 5 (lits (dN g us c).1), .int .i64 (dN g us c).2.1, .bool (dN g us c).2.2.1, .int .i64 (dN g us c).2.2.2]):=by
 obtain ⟨vC,ig,_⟩:=w8 hc.1;have AE:∀ s∈cJ c 0,jQ g s.t∧EN s.t∧c≠[]:=fun s hs=>by
  obtain ⟨j,hj,h1,h2,h3⟩:=Dc c 0 s hs;have vB:=Gv hc (aC hj) s.rt;exact ⟨GN (Ye5 g) _ _ _ (J6 vB) h2,GN JI _ _ _ (p5 vB) h2,by rintro rfl;simp at hj⟩
 have PV:∀ u∈us, ∀ s∈cJ c 0,(TT g c u s).1.fit∧(TT g c u s).1.size≤160000:=fun u wb s hs=>Xm (hu u wb).2 (AE s hs).2.1;refine Ymo g us c (TT g c) ya (by omega) (fun l hl=>?_) (fun u wb s hs=>?_) (fun u wb s hs=>?_) (fun u wb s hs _=>?_)
 ·obtain ⟨a1,a2⟩:=uE hc hl;exact ⟨(p5 a1).2,(p5 a2).2⟩
 ·obtain ⟨h1,h2,h3⟩:=AE s hs;exact Yns g vC u s.t c (hu u wb).1 (hu u wb).2 h1 h2 h3 (by omega) (Ynb hc)
 ·obtain ⟨j,hj,h1,h2,h3⟩:=Dc c 0 s hs;have vB:=(p5 (Gv hc (aC hj) s.rt)).2;exact Yqz c s _ s.t j hj (by rw [h1];simp) h2 (by omega) (by omega) (by omega)
 ·obtain ⟨h1,h2⟩:=PV u wb s hs;have h3:=(Wh hc hs h1).2;exact Gq g _ (fun i hi=>by have:=h3 _ (aC hi);omega)
theorem I2 {T:Un→nE→Tm×Bool} {s:nE} {x:Un×Tm}:∀ {us:List Un},gX T s us=some x→x.1∈us∧x.2=(T x.1 s).1∧(T x.1 s).2=true
 | [],h=>by rw [gX] at h;cases h
 | u :: us,h=>by
  rw [gX] at h;split at h
  ·rename_i h1;cases h;exact ⟨by simp,rfl,h1⟩
  ·obtain ⟨a1,a2⟩:=I2 h;exact ⟨cR _ a1,a2⟩
theorem MX {g:List Sy} {us:List Un} {c:List Li} (hu:∀ u∈us,jd g u.l∧jd g u.r) (hc:iN g c) (h0:(dN g us c).2.2.2=0):iN g (dN g us c).1:=by
 unfold dN lG at h0 ⊢;rcases ET (TT g c) us (cJ c 0) with ⟨f1,_⟩ | ⟨k,hk,x,f1,f2,_⟩
 ·rw [f1];exact hc
 ·rw [f1] at h0 ⊢;simp only at h0 ⊢;split
  ·rename_i h1;obtain ⟨m1,m2,_⟩:=I2 f2;have hs:=aC hk;obtain ⟨j,hj,g1,g2,g3⟩:=Dc c 0 _ hs;have um:=GN JI _ _ _ (p5 (Gv hc (aC hj) _)) g2;refine ⟨h1,?_⟩;rw [m2];exact (Wh hc hs (Xm (c:=c) (hu _ m1).2 um).1).1
  ·rename_i h1;rw [if_neg h1] at h0;exact absurd h0 h1
end Go.Proofs
namespace Go.Proofs
open Go Go.dm
attribute [local go_sem] Nat.reduceAdd Nat.reduceSub Nat.reduceMul Nat.reduceLeDiff Nat.reduceEqDiff Nat.reduceBEq Nat.reduceLT Nat.le_refl Int.natCast_zero Nat.sub_zero List.length_map Int.toNat_natCast Int.natCast_one Int.reduceEq Int.reduceLT Int.reduceLE Int.reduceNe Int.sub_zero Int.zero_add Int.toNat_one
def xx (g:List Sy) (es:List (List Li)) (c:List Li):List Li×Int×Bool×Int:=if cQ g (c :: es)≠0 then ([],0,false,cQ g (c :: es)) else dN g (cm es) c
def cL (g:List Sy) (es:List (List Li)) (c:List Li):List Li×List Int×Int:=gH (cQ g (c :: es)) (dN g (cm es)) c
def su (es:List (List Li)) (c:List Li):Prop:=es.length<400000∧∀ x∈c :: es,pn x∧qe x
theorem Dr {g:List Sy} {es:List (List Li)} {c:List Li} (h:su es c) (hw:cQ g (c :: es)=0):iN g c∧(∀ u∈cm es,jd g u.l∧jd g u.r)∧∀ x∈es,KK x:=by
 have hw:=EV hw;have h1:∀ x∈es,iN g x:=fun x hx=>⟨hw x (by simp [hx]),(h.2 x (by simp [hx])).2⟩;refine ⟨⟨hw c (by simp),(h.2 c (by simp)).2⟩,fun u hu=>TJ (g:=g) (fun x hx=>(h1 x hx).1) (fun x hx=>(h1 x hx).2) hu,fun x hx l hl=>?_⟩;obtain ⟨a1,a2⟩:=uE (h1 x hx) hl;have b1:=p5 a1;have b2:=p5 a2;exact ⟨⟨b1.1,by have:=b1.2;omega⟩,b2.1,by have:=b2.2;omega⟩
theorem Ynk (g:List Sy) (es:List (List Li)) (c:List Li) (h:su es c) :
  aD Tryz.prog 68 [.ps 4 (syms g), .ps 1 (dp es), .ps 5 (lits c)] (.dT [.ps 5 (lits (cL g es c).1), .ps 1 (ints (cL g es c).2.1), .int .i64 (cL g es c).2.2]):=by
 have hlen:=Zux es;exact Yh7 g es (cm es) c (cQ g (c :: es)) (dN g (cm es)) (fun d=>cQ g (c :: es)=0∧iN g d)
  (Ygz g es c (fun x hx=>(h.2 x hx).1) (by have:=h.1;omega)) (fun h0=>Yei es (by have:=h.1;omega) (Dr h h0).2.2) (fun h0=>⟨h0,(Dr h h0).1⟩)
  (fun d hd e _=>⟨hd.1,MX (Dr h hd.1).2.1 hd.2 e⟩) (fun d hd=>Ypz g (cm es) d (by have:=h.1;omega) (Dr h hd.1).2.1 hd.2)
theorem Yso (n:Int) (hn : -1000000≤n∧n≤1000000):aD Tryz.prog 42 [.int .i64 n] (Tm.mk (-1 - n) []).aM:=by
 refine aD.begin (rs:=[.cell 2 70]) (m:=5) 1000 Tryz.func42 rfl rfl rfl (by decide) (dG _) ?_;have hw:IntKind.i64.wrap (-1 - n) = -1 - n:=dQ (by omega);simp only [go_sem,hw,cZ];exact ⟨rfl,rfl⟩
theorem JU (n:Int) (ts:List Tm):aD Tryz.prog 43 [.int .i64 n, .ps 2 (ts.map Tm.aM)] (Tm.mk n ts).aM:=by
 refine aD.begin (rs:=[.cell 4 70]) (m:=6) 1000 Tryz.func43 rfl rfl rfl (by decide) (dG _) ?_;simp only [go_sem,cZ];exact ⟨rfl,cx _ _ _⟩
def wT (a b:Int):Int:=if a<b then -1 else if b<a then 1 else 0
theorem NK {a b:Int} (h:a≠b):wT a b≠0:=by unfold wT;split<;>(try split)<;>omega
theorem L_ (a b:Int):aD Tryz.prog 155 [.int .i64 a, .int .i64 b] (.int .i64 (wT a b)):=by
 refine aD.begin (rs:=[.tmp 4]) (m:=9) 1000 Tryz.func155 rfl rfl rfl (by decide) trivial ?_;unfold wT;by_cases h1:a<b
 ·simp only [go_sem,h1]
 ·by_cases h2:b<a
  ·simp only [go_sem,h1,h2]
  ·simp only [go_sem,h1,h2]
mutual
def Tm.cmp:Tm→Tm→Int
 | .mk h ts,u=>if ((Tm.mk h ts).size:Int)≠u.size then wT (Tm.mk h ts).size u.size else if h≠u.head then wT h u.head else if (ts.length:Int)≠u.args.length then wT ts.length u.args.length else Tm.mj ts u.args
def Tm.mj:List Tm→List Tm→Int
 | [],_=>0
 | _ :: _,[]=>0
 | t :: ts,u :: us=>if t.cmp u≠0 then t.cmp u else Tm.mj ts us
end
mutual
theorem Sd:∀ t u:Tm,t.cmp u=0↔t=u
 | .mk h ts, .mk k us=>by
  rw [Tm.cmp];by_cases h1:((Tm.mk h ts).size:Int)=(Tm.mk k us).size
  ·rw [if_neg (by simpa using h1)];by_cases h2:h=k
   ·subst h2;rw [if_neg (by simp [Tm.head])];by_cases h3:(ts.length:Int)=us.length
    ·rw [if_neg (by simpa [Tm.args] using h3)];rw [show (Tm.mk h us).args=us from rfl,RS ts us (by omega)]
     simp
    ·rw [if_pos (by simpa [Tm.args] using h3)];refine ⟨fun e=>absurd e (NK (by simpa [Tm.args] using h3)),fun e=>?_⟩;cases e;exact absurd rfl h3
   ·rw [if_pos (by simpa [Tm.head] using h2)];refine ⟨fun e=>absurd e (NK (by simpa [Tm.head] using h2)),fun e=>?_⟩;cases e;exact absurd rfl h2
  ·rw [if_pos (by simpa using h1)];refine ⟨fun e=>absurd e (NK h1),fun e=>?_⟩;rw [e] at h1;exact absurd rfl h1
theorem RS:∀ ts us:List Tm,ts.length=us.length→(Tm.mj ts us=0↔ts=us)
 | [],[],_=>by simp [Tm.mj]
 | t :: ts,u :: us,hl=>by
  rw [Tm.mj];have h1:=Sd t u;have h2:=RS ts us (by simpa using hl);by_cases h3:t.cmp u=0
  ·rw [if_neg (by simp [h3]),h2,h1.1 h3];simp
  ·rw [if_pos h3];refine ⟨fun e=>absurd e h3,fun e=>?_⟩;cases e;exact absurd (h1.2 rfl) h3
end
theorem Zvg (t:Tm):∀ u:Tm,t.size<2 ^ 62→u.size<2 ^ 62→aD Tryz.prog 129 [t.aM,u.aM] (.int .i64 (t.cmp u)):=by
 induction t using Tm.gN with
 | h h ts ih =>
 intro u hs hu;obtain ⟨k,us,rfl⟩:∃ k us,u=Tm.mk k us:=⟨u.head,u.args,by cases u;rfl⟩;have gx:=NL (Tm.mk h ts) hs;have PH:=NL (Tm.mk k us) hu;have bA:=oZ ts;have Kr:=oZ us;have fJ:(Tm.mk h ts).size=1+Tm.bG ts:=rfl;have H9:(Tm.mk k us).size=1+Tm.bG us:=rfl;refine aD.begin (rs:=[.tmp 4]) (m:=60) 1000 Tryz.func129 rfl rfl rfl (by decide) trivial ?_;rw [Tm.cmp,show (Tm.mk k us).args=us from rfl,show (Tm.mk k us).head=k from rfl]
 generalize (Tm.mk h ts).size=n1 at *
 generalize (Tm.mk k us).size=n2 at *
 simp only [go_sem,fL,Tm.head,Tm.args];refine aG.draw [] 2 2 mixed rfl rfl (by decide) ?_;simp only [go_sem,da];refine kG (gx) (by (try simp only [cZ]);exact cx _ _ _) (by simp [go_sem,dG,bW]) ?_
 simp only [go_sem];refine kG (PH) (by (try simp only [cZ]);exact cx _ _ _) (by simp [go_sem,dG,bW]) ?_
 simp only [go_sem];refine aG.go 1000 ?_;by_cases c1:(n1:Int)=n2
 ·rw [if_neg (by simpa using c1)];by_cases c2:h=k
  ·rw [if_neg (fun e=>e c2)];by_cases c3:(ts.length:Int)=us.length
   ·rw [if_neg (fun e=>e c3)];obtain ⟨Z,hZ⟩:∃ Z,Tm.mj ts us=Z:=⟨_,rfl⟩;rw [hZ];simp only [go_sem,c1,c2,c3,Tm.head,Tm.args];refine aG.cO (ι:={i:Nat // i≤ts.length∧Tm.mj (ts.drop i) (us.drop i)=Z}) 1000 (fun q=>fe 62 [(2, .ptr 0 0),(3, .ptr 1 0),(4, .int .i64 0),(5, .int .i64 q.1)])
     (fun _=>[some (.var [.int .i64 h, .ps 2 (ts.map Tm.aM)]),some (.var [.int .i64 k, .ps 2 (us.map Tm.aM)])]) (fun q=>ts.length - q.1) ⟨0,by omega,by simpa using hZ⟩ ?_ (fun _=>by simp) ?_
    ·simp only [go_sem,bW,c2]
    ·rintro ⟨i,hi,aN⟩;by_cases bA:(i:Int)<ts.length
     ·have aU:i<ts.length:=by omega
      have Ek:i<us.length:=by omega
      have HW:(i:Int)<us.length:=by omega
      have hw:IntKind.i64.wrap ((i:Int)+1)=((i+1:Nat):Int):=by rw [dQ (by omega)];omega
      have g1:(ts.map Tm.aM).getD i .undef=ts[i].aM:=mC aU;have g2:(us.map Tm.aM).getD i .undef=us[i].aM:=mC Ek;have z1:=w7 ts i aU;have z2:=w7 us i Ek;have hc:=ih i aU us[i] (by omega) (by omega);rw [ao aU,ao Ek,Tm.mj] at aN;generalize ts[i]=x at *
      generalize us[i]=y at *
      simp only [go_sem,bA];refine aG.draw [] 2 2 mixed rfl rfl (by decide) ?_;simp only [go_sem,da,g1,g2,fL,bA,HW]
      (repeat ((with_reducible refine And.intro ?_ ?_); ·omega))
      refine kG (hc) (by (try simp only [cZ]);exact cx _ _ _) (by simp [go_sem,dG,bW]) ?_
      simp only [go_sem];refine aG.go 1000 ?_;by_cases c4:x.cmp y=0
      ·rw [if_neg (by simp [c4])] at aN;simp only [go_sem,c4,hw];refine ⟨⟨i+1,by omega,aN⟩,?_,by simp only;omega⟩;simp only [go_sem,bW]
      ·rw [if_pos c4] at aN;simp only [go_sem,c4];refine aG.go 1000 ?_;simp only [go_sem,aN]
     ·have dZ:i=ts.length:=by omega
      subst dZ;rw [aX,Tm.mj] at aN;simp only [go_sem,bA];refine aG.go 1000 ?_;simp only [go_sem,aN]
   ·rw [if_pos c3];simp only [go_sem,c1,c2,c3,Tm.head,Tm.args];refine aq.bS [] (L_ ts.length us.length) (by (try simp only [cZ]);exact cx _ _ _) (by simp [go_sem,dG,bW]) ?_;simp only [bC,bN,bL,if_true];refine aG.go 1000 ?_
    simp only [go_sem]
  ·rw [if_pos c2];simp only [go_sem,c1,c2,Tm.head,Tm.args];refine aq.bS [] (L_ h k) (by (try simp only [cZ]);exact cx _ _ _) (by simp [go_sem,dG,bW]) ?_;simp only [bC,bN,bL,if_true];refine aG.go 1000 ?_
   simp only [go_sem]
 ·rw [if_pos c1];simp only [go_sem,c1];refine aG.draw [] 2 2 mixed rfl rfl (by decide) ?_;simp only [go_sem,da];refine kG (gx) (by (try simp only [cZ]);exact cx _ _ _) (by simp [go_sem,dG,bW]) ?_
  simp only [go_sem];refine kG (PH) (by (try simp only [cZ]);exact cx _ _ _) (by simp [go_sem,dG,bW]) ?_
  simp only [go_sem];refine kG (L_ n1 n2) (by (try simp only [cZ]);exact cx _ _ _) (by simp [go_sem,dG,bW]) ?_
  simp only [go_sem];refine aG.go 1000 ?_;simp only [go_sem]
theorem Wc (t u:Tm) (ht:t.size<2 ^ 62) (hu:u.size<2 ^ 62):aD Tryz.prog 88 [t.aM,u.aM] (.bool (decide (t=u))):=by
 have hc:=Zvg t u ht hu;have he:=Sd t u;refine aD.begin (rs:=[.tmp 4]) (m:=7) 1000 Tryz.func88 rfl rfl rfl (by decide) trivial ?_;simp only [go_sem,fL];refine aq.bS [] (hc) (by (try simp only [cZ]);exact cx _ _ _) (by simp [go_sem,dG,bW]) ?_;simp only [bC,bN,bL,if_true];refine aG.go 1000 ?_
 by_cases h:t=u
 ·subst h;simp only [go_sem,he.2 rfl,decide_true]
 ·simp only [go_sem,show ¬ t.cmp u=0 from fun e=>h (he.1 e),h,decide_false]
def Li.DI (a b:Li):Bool:=decide (a.neg=b.neg)&&(decide (a.l=b.l)&&decide (a.r=b.r))
theorem YZ {a b:Li}:a.DI b=true↔a=b:=by
 cases a;cases b;simp [Li.DI]
theorem Yb7 (a b:Li) (ha:a.l.size<2 ^ 62∧a.r.size<2 ^ 62) (hb:b.l.size<2 ^ 62∧b.r.size<2 ^ 62):aD Tryz.prog 53 [a.aM,b.aM] (.bool (a.DI b)):=by
 have h1:=Wc a.l b.l ha.1 hb.1;have h2:=Wc a.r b.r ha.2 hb.2;refine aD.begin (rs:=[.tmp 4]) (m:=22) 1000 Tryz.func53 rfl rfl rfl (by decide) trivial ?_;unfold Li.DI;simp only [go_sem,kH];by_cases c1:a.neg=b.neg
 ·have N3:(a.neg==b.neg)=true:=by simp [c1]
  simp only [go_sem,N3,c1,decide_true,cG];refine aq.bS [] (h1) (by (try simp only [cZ]);exact cx _ _ _) (by simp [go_sem,dG,bW]) ?_;simp only [bC,bN,bL,if_true];refine aG.go 1000 ?_
  by_cases c2:a.l=b.l
  ·simp only [go_sem,c2,decide_true,cG];refine aq.bS [] (h2) (by (try simp only [cZ]);exact cx _ _ _) (by simp [go_sem,dG,bW]) ?_;simp only [bC,bN,bL,if_true];refine aG.go 1000 ?_
   simp only [go_sem]
  ·simp only [go_sem,c2,decide_false,cE]
 ·have N3:(a.neg==b.neg)=false:=by simp [c1]
  simp only [go_sem,N3,c1,decide_false,cE]
def qb:List Li→List Li→Bool
 | [],[]=>true
 | a :: c,b :: d=>a.DI b&&qb c d
 | _,_=>false
theorem Nh:∀ c d:List Li,qb c d=true↔c=d
 | [],[]=>by simp [qb]
 | [],_ :: _=>by simp [qb]
 | _ :: _,[]=>by simp [qb]
 | a :: c,b :: d=>by simp [qb,YZ,Nh c d]
def EM (c:List Li):Prop:=∀ l∈c,l.l.size<2 ^ 62∧l.r.size<2 ^ 62
theorem Yiq {a b:List Li} (h:a.length=b.length) {i:Nat} (h1:i<a.length) (h2:i<b.length):qb (a.drop i) (b.drop i)=(a[i].DI b[i]&&qb (a.drop (i+1)) (b.drop (i+1))):=by
 rw [ao h1,ao h2,qb]
theorem Zxb (a b:List Li) (ha:EM a) (hb:EM b) (hl:a.length<2 ^ 62):aD Tryz.prog 19 [.ps 5 (lits a), .ps 5 (lits b)] (.bool (qb a b)):=by
 refine aD.begin (rs:=[.tmp 4]) (m:=25) 1000 Tryz.func19 rfl rfl rfl (by decide) trivial ?_;obtain ⟨Z,hZ⟩:∃ Z,qb a b=Z:=⟨_,rfl⟩;rw [hZ];by_cases c1:(a.length:Int)=b.length
 ·simp only [go_sem,fR,c1];refine aG.cO (ι:={i:Nat // i≤a.length∧qb (a.drop i) (b.drop i)=Z}) 1000 (fun q=>fe 27 [(0, .ps 5 (lits a)),(1, .ps 5 (lits b)),(4, .bool false),(5, .int .i64 q.1)])
   (fun _=>[]) (fun q=>a.length - q.1) ⟨0,by simpa using hZ⟩ ?_ (fun _=>au _) ?_
  ·simp only [go_sem,cy]
  ·rintro ⟨i,hi,aN⟩;by_cases bA:(i:Int)<a.length
   ·have aU:i<a.length:=by omega
    have Ej:i<b.length:=by omega
    have HV:(i:Int)<b.length:=by omega
    have hw:IntKind.i64.wrap ((i:Int)+1)=((i+1:Nat):Int):=by rw [dQ (by omega)];omega
    have g1:=tz aU;have g2:=tz Ej;have hc:=Yb7 a[i] b[i] (ha _ (aC aU)) (hb _ (aC Ej));rw [Yiq (by omega) aU Ej] at aN;generalize a[i]=x at *
    generalize b[i]=y at *
    simp only [go_sem,fR,bA];refine aG.draw [] 0 0 mixed rfl rfl (by decide) ?_;simp only [go_sem,da,g1,g2,kH,bA,HV,fR]
    (repeat ((with_reducible refine And.intro ?_ ?_); ·omega))
    refine kG hc (cx _ _ _) ⟨nt _,nt _,trivial⟩ ?_;simp only [go_sem];refine aG.go 1000 ?_;cases c4:x.DI y with
    | true =>
     rw [c4,cG] at aN;simp only [go_sem,hw];refine ⟨⟨i+1,by omega,aN⟩,?_,by simp only;omega⟩;simp only [go_sem,cy]
    | false =>
     rw [c4,cE] at aN;simp only [go_sem];refine aG.go 1000 ?_;simp only [go_sem,aN]
   ·have dZ:i=a.length:=by omega
    subst dZ;have:b.drop a.length=[]:=dP (by omega);rw [aX,this,qb] at aN;subst aN;simp only [go_sem,fR,bA];refine aG.go 1000 ?_;simp only [go_sem]
 ·have:Z=false:=by
   rw [← hZ,← dw,Nh];rintro rfl;exact c1 rfl
  rw [this];simp only [go_sem,fR,c1]
def pa (m:Int):List Tm→Int→Int
 | [],n=>n
 | t :: ts,n=>if n≤m then pa m ts (n+t.tC m) else n
theorem T4 {m:Int} (hm : 0≤m):∀ (ts:List Tm) (n:Int),0≤n→n≤2*m+1→0≤pa m ts n∧(pa m ts n≤m→pa m ts n=n+Tm.bG ts)
 | [],n,h,_=>⟨by simp [pa,h],fun _=>by simp [pa,Tm.bG]⟩
 | t :: ts,n,h,h2=>by
  have hb:=Da t m hm;simp only [pa];split
  ·obtain ⟨h3,h4⟩:=T4 hm ts (n+t.tC m) (by omega) (by omega);refine ⟨h3,fun h5=>?_⟩;have h6:=h4 h5;have h7:=Me t m hm (by
    have:(0:Int)≤Tm.bG ts:=by omega
    omega)
   simp only [Tm.bG];omega
  ·exact ⟨h,fun h5=>by omega⟩
def qc (c:List Li):Bool:=decide (pa 80 (ck c) 0≤80)&&decide (c.length≤8)
theorem Vq (c:List Li) (hc:c.length≤2600000000000):aD Tryz.prog 23 [.ps 5 (lits c)] (.bool (qc c)):=by
 refine aD.begin (rs:=[.tmp 2]) (m:=31) 1000 Tryz.func23 rfl rfl rfl (by decide) trivial ?_;simp only [go_sem];refine aq.bS [] (Um c hc) (cx _ _ _) ⟨cy _,trivial⟩ ?_;rw [je];simp only [ite_self];refine aG.go 1000 ?_;have zr:=E5 c;have hF:qc c=(decide (pa 80 (ck c) 0≤80)&&decide (c.length≤8)):=rfl;rw [hF];generalize ck c=ts at *
 simp only [go_sem];refine aG.cO (ι:={p:Nat×Int // p.1≤ts.length∧0≤p.2∧p.2≤161∧pa 80 (ts.drop p.1) p.2=pa 80 ts 0}) 1000 (fun p=>fe 32 [(0, .ps 5 (lits c)),(2, .bool false),(3, .int .i64 p.1.2),(4, .ps 2 (ts.map Tm.aM)),(5, .int .i64 p.1.1)]) (fun _=>[]) (fun p=>ts.length - p.1.1) ⟨(0,0),by simp⟩ ?_ (fun _=>au _) ?_
 ·simp only [go_sem,bW,cy]
 ·rintro ⟨⟨i,n⟩,hi,h1,h2,h3⟩;simp only at hi h1 h2 h3;by_cases bA:(i:Int)<ts.length
  ·have aU:i<ts.length:=by omega
   by_cases hn:n≤80
   ·simp only [go_sem,aj,bA,hn,mC aU,fL];refine ⟨by omega,?_⟩;refine aq.bS [] (Xa ts[i] 80 (by omega) (by omega)) (by (try simp only [cZ]);exact cx _ _ _) (by simp [go_sem,dG,bW]) ?_;simp only [bC,bN,bL,if_true];refine aG.go 1000 ?_
    simp only [go_sem];have hb:=Da ts[i] 80 (by omega);refine ⟨⟨(i+1,n+ts[i].tC 80),aU,by simp only;omega,by simp only;omega,?_⟩,?_,by simp only;omega⟩
    ·simp only
     rw [← h3,ao aU,pa,if_pos hn]
    ·simp only [go_sem,bW,cy];rw [dQ (by omega),dQ (by omega)];simp
   ·simp only [go_sem,aj,bA,hn];refine aG.go 1000 ?_;have:pa 80 (ts.drop i) n=n:=by cases ts.drop i<;>simp [pa,hn]
    rw [← h3,this];simp only [go_sem,hn,decide_false,cE]
  ·simp only [go_sem,aj,bA];refine aG.go 1000 ?_;have:i=ts.length:=by omega
   subst this;rw [← h3,aX,pa];by_cases hn:n≤80
   ·simp only [go_sem,hn,decide_true,cG,fR];congr 1;simp;omega
   ·simp only [go_sem,hn,decide_false,cE]
def kW:List (List Li)→Int→Bool×Int
 | [],n=>(true,n)
 | c :: es,n=>if jj c then kW es (n+c.length) else (false,n)
def pE (es:List (List Li)):Bool:=decide (es.length≤8)&&((kW es 0).1&&decide ((kW es 0).2≤40))
theorem Yiv (es:List (List Li)):aD Tryz.prog 25 [.ps 1 (dp es)] (.bool (pE es)):=by
 refine aD.begin (rs:=[.tmp 2]) (m:=35) 1000 Tryz.func25 rfl rfl rfl (by decide) trivial ?_;simp only [go_sem];by_cases h8:(es.length:Int)≤8
 ·have h8':es.length≤8:=by omega
  refine aG.cO (ι:={p:Nat×Int // p.1≤es.length∧0≤p.2∧p.2≤40*p.1∧kW (es.drop p.1) p.2=kW es 0}) 1000 (fun p=>fe 36 [(0, .ps 1 (dp es)),(2, .bool false),(3, .int .i64 p.1.2),(4, .int .i64 p.1.1)]) (fun _=>[]) (fun p=>es.length - p.1.1) ⟨(0,0),by simp⟩ ?_ (fun _=>au _) ?_
  ·simp only [go_sem,fO]
  ·rintro ⟨⟨i,n⟩,hi,h1,h2,h3⟩;simp only at hi h1 h2 h3;by_cases bA:(i:Int)<es.length
   ·have aU:i<es.length:=by omega
    have hw:IntKind.i64.wrap ((i:Int)+1)=((i+1:Nat):Int):=by rw [dQ (by omega)];omega
    have g1:=Ae aU;rw [ao aU,kW] at h3;generalize es[i]=c at *
    simp only [go_sem,m9,bA,h8,g1];refine ⟨by omega,?_⟩;refine aq.bS [] (Uf c) (cx _ _ _) (by simp [go_sem,cy]) ?_;simp only [bC,bN,bL,if_true];refine aG.go 1000 ?_;cases hf:jj c with
    | true =>
     rw [hf,if_pos rfl] at h3;have ig:c.length≤40:=by
      unfold jj at hf;simp only [aB,decide_eq_true_eq] at hf;exact hf.1
     simp only [go_sem,g1,fR,m9,bA,h8]
     (repeat ((with_reducible refine And.intro ?_ ?_); ·omega))
     refine ⟨⟨(i+1,n+c.length),aU,by simp only;omega,by simp only;omega,h3⟩,?_,by simp only;omega⟩;simp only [go_sem,fO,hw];rw [dQ (by omega)]
    | false =>
     rw [hf,if_neg (by simp)] at h3;have hF:pE es=false:=by unfold pE;rw [← h3];simp
     simp only [go_sem];refine aG.go 1000 ?_;simp only [go_sem,hF]
   ·simp only [go_sem,m9,bA];refine aG.go 1000 ?_;have:i=es.length:=by omega
    subst this;rw [aX,kW] at h3;unfold pE;rw [← h3];simp only [go_sem,m9,h8,h8',decide_true,cG]
 ·refine aG.cO (ι:=Unit) 1000 (fun p=>fe 36 [(0, .ps 1 (dp es)),(2, .bool false),(3, .int .i64 0),(4, .int .i64 0)]) (fun _=>[]) (fun p=>0) () ?_ (fun _=>au _) ?_
  ·simp only [go_sem,fO]
  ·rintro ⟨⟩;have bA:(0:Int)<es.length:=by omega
   have hF:pE es=false:=by
    unfold pE;rw [show decide (es.length≤8)=false from by simp;omega]
    rfl
   simp only [go_sem,m9,bA,h8];refine aG.go 1000 ?_;simp only [go_sem,m9,h8,hF]
def tx:List Sy:=[⟨⟨#[36,116,114,117,101]⟩,0,1,true⟩,⟨⟨#[97]⟩,0,1,false⟩,⟨⟨#[102]⟩,1,1,false⟩,⟨⟨#[112]⟩,1,1,true⟩]
def iu:Tm:=.mk (-1) []
def iQ:Tm:=.mk 1 []
def oE:List (List Li):=[[⟨false, .mk 2 [iu],iu⟩]]
def iS (t:Tm):List Li:=[⟨false, .mk 3 [t], .mk 0 []⟩]
def iR (t:Tm):Tm:=.mk 2 [t]
theorem Yn9 (t:Tm):(iR t).aM = .agg [.int .i64 2, .ps 2 [.agg [.int .i64 t.head, .ps 2 (t.args.map Tm.aM)]]]:=by
 rw [iR,cZ,← cZ t];rfl
theorem Ab (t:Tm):bC (iR t).aM=false:=by rw [Yn9];rfl
theorem GV (t:Tm):aD Tryz.prog 43 [.int .i64 2, .ps 2 [t.aM]] (iR t).aM:=JU 2 [t]
@[go_sem] theorem Xb6 (t:Tm):(cX t.aM=true)=True:=eq_true (by rw [cZ];rfl)
theorem Ro (l:Li) (h1:l.l.size<1000∧l.r.size<1000) (h2:l.l.fit∧l.r.fit):pn [l]∧qe [l]:=by
 refine ⟨fun i h=>?_,fun x hx=>?_⟩
 ·have:i=0:=by simpa using h
  subst this;simp only [ez];omega
 ·rw [aL.1 hx];exact h2
theorem GM:iu.fit∧iQ.fit∧(iR iu).fit∧(iR (iR iQ)).fit∧∀ t:Tm,t.fit→(Tm.mk 3 [t]).fit:=by
 refine ⟨?_,?_,?_,?_,fun t h=>?_⟩<;>simp [iu,iQ,iR,Tm.fit,Tm.fits,mE];exact h
theorem Ru:∀ x∈oE,pn x∧qe x:=fun x hx=>by
 have:x=[⟨false, .mk 2 [iu],iu⟩]:=by simpa [oE] using hx
 subst this;exact Ro _ (by decide) ⟨GM.2.2.1,GM.1⟩
theorem NG (t:Tm) (h:t.size<100) (hf:t.fit):pn (iS t)∧qe (iS t):=Ro _ ⟨by simp [Tm.size,Tm.bG];omega,by simp [Tm.size,Tm.bG]⟩ ⟨GM.2.2.2.2 t hf,by simp [Tm.fit,Tm.fits,mE]⟩
theorem Ywt (t:Tm) (h:t.size<100) (hf:t.fit):su oE (iS t):=⟨by decide,fun x hx=>by
 rcases aQ.1 hx with rfl | hx
 ·exact NG t h hf
 ·exact Ru x hx⟩
end Go.Proofs
namespace Go.Proofs
open Go Go.dm
theorem EE {l:List ah} (h:l.length=2):∃ a b,l=[a,b]:=by
 rcases l with _ | ⟨a,_ | ⟨b,_ | ⟨c,l⟩⟩⟩<;>first | exact ⟨_,_,rfl⟩ | simp at h
theorem P9 {l:List ah} (h:l.length=3):∃ a b c,l=[a,b,c]:=by
 rcases l with _ | ⟨a,l⟩
 ·simp at h
 ·obtain ⟨b,c,rfl⟩:=EE (l:=l) (by simpa using h);exact ⟨_,_,_,rfl⟩
theorem Ik {l:List ah} (h:l.length=4):∃ a b c d,l=[a,b,c,d]:=by
 rcases l with _ | ⟨a,l⟩
 ·simp at h
 ·obtain ⟨b,c,d,rfl⟩:=P9 (l:=l) (by simpa using h);exact ⟨_,_,_,_,rfl⟩
theorem P_ {l:List ah} (h:l.length=5):∃ a b c d e,l=[a,b,c,d,e]:=by
 rcases l with _ | ⟨a,l⟩
 ·simp at h
 ·obtain ⟨b,c,d,e,rfl⟩:=Ik (l:=l) (by simpa using h);exact ⟨_,_,_,_,_,rfl⟩
theorem Rk:∀ {ts:List Tm},(∀ t∈ts,t.fit)→Tm.fits ts
 | [],_=>trivial
 | t :: ts,h=>⟨h t List.mem_cons_self,Rk fun x hx=>h x (cR _ hx)⟩
theorem Ys5 (t:Tm):cX t.aM=true:=by rw [cZ];rfl
theorem RB:∀ (n:Nat) (cs:List ah),mG Tryz.prog n 70 cs→∃ t:Tm,cs=t.aM.cells∧t.fit:=by
 intro n
 induction n using Nat.strongRecOn with
 | _ n ih =>
 intro cs h;obtain ⟨m,rfl,h1,h2⟩:=Jy (L:=[(3,0,1),(68,1,1)]) (N:=2) (by kernel_rfl) (by kernel_rfl) h;obtain ⟨i,e1,hi⟩:=GY (by kernel_rfl) (h2 (3,0,1) (by simp));obtain ⟨m',rfl,es,e2,_,h4⟩:=GI (e:=70) (sz:=2) (ag:=true) (by kernel_rfl) (h2 (68,1,1) (by simp));obtain ⟨ts,rfl,h5⟩:=Cb (f:=Tm.aM) (p:=Tm.fit) es fun x hx=>by
  obtain ⟨g1,g2⟩:=h4 x hx;obtain ⟨t,g3,g4⟩:=ih m' (by omega) _ g2;exact ⟨t,Gm g1 (Ys5 t) g3,g4⟩
 obtain ⟨a,b,rfl⟩:=EE h1;simp at e1 e2;subst e1 e2;exact ⟨.mk i ts,by rw [fL];rfl,hi,Rk h5⟩
theorem Vy {a:ah} {t e:TypeId} {sz:Nat} {ag:Bool} (hs:n_ Tryz.prog t=some (e,sz,ag)) (ha:jt Tryz.prog t=false) (h:z7 Tryz.prog t a):∃ m es,a = .ps sz es∧es.length≤maxLen∧∀ x∈es,cX x=ag∧mG Tryz.prog m e x.cells:=by
 obtain ⟨h1,n,h2⟩:=h;obtain ⟨m,_,es,h3,h4,h5⟩:=GI hs h2;exact ⟨m,es,Gf (h1.trans ha) h3,h4,h5⟩
theorem Yul (n:Nat) (cs:List ah) (h:mG Tryz.prog n 79 cs):∃ s:Sy,cs=s.aM.cells∧True:=by
 obtain ⟨m,rfl,h1,h2⟩:=Jy (L:=[(9,0,1),(3,1,1),(3,2,1),(4,3,1)]) (N:=4) (by kernel_rfl) (by kernel_rfl) h;obtain ⟨s,e1,_⟩:=Yrg (by kernel_rfl) (h2 (9,0,1) (by simp));obtain ⟨i,e2,_⟩:=GY (by kernel_rfl) (h2 (3,1,1) (by simp));obtain ⟨j,e3,_⟩:=GY (by kernel_rfl) (h2 (3,2,1) (by simp));obtain ⟨b,e4⟩:=WY (by kernel_rfl) (h2 (4,3,1) (by simp));obtain ⟨x1,x2,x3,x4,rfl⟩:=Ik h1;simp at e1 e2 e3 e4;subst e1 e2 e3 e4;exact ⟨⟨s,i,j,b⟩,rfl,trivial⟩
theorem Ym9 {a:ah} (h:z7 Tryz.prog 22 a):∃ g:List Sy,a = .ps 4 (syms g):=by
 obtain ⟨m,es,rfl,_,h5⟩:=Vy (e:=79) (sz:=4) (ag:=true) (by kernel_rfl) (by kernel_rfl) h;obtain ⟨g,rfl,_⟩:=Cb (f:=Sy.aM) (p:=fun _=>True) es fun x hx=>by
  obtain ⟨g1,g2⟩:=h5 x hx;obtain ⟨s,g3,_⟩:=Yul m _ g2;exact ⟨s,Gm g1 rfl g3,trivial⟩
 exact ⟨g,rfl⟩
theorem Yj8 {n:Nat} {cs:List ah} (h:mG Tryz.prog n 26 cs):∃ l:List Int,cs=[.ps 1 (ints l)]∧l.length≤maxLen∧∀ i∈l,mE i:=by
 obtain ⟨m,_,es,h3,h4,h5⟩:=GI (e:=3) (sz:=1) (ag:=false) (by kernel_rfl) h;obtain ⟨l,rfl,hl⟩:=Cb (f:=fun i=>.int .i64 i) (p:=mE) es fun x hx=>by
  obtain ⟨g1,g2⟩:=h5 x hx;obtain ⟨i,g3,g4⟩:=GY (by kernel_rfl) g2;exact ⟨i,Gf g1 g3,g4⟩
 exact ⟨l,h3,by simpa using h4,hl⟩
theorem Yxj {a:ah} (h:z7 Tryz.prog 38 a):∃ w:Wo,a=w.aM:=by
 obtain ⟨h0,n,h⟩:=h;obtain ⟨m,rfl,h1,h2⟩:=Jy (L:=[(3,0,1),(36,1,1)]) (N:=2) (by kernel_rfl) (by kernel_rfl) h;obtain ⟨i,e1,hi⟩:=GY (by kernel_rfl) (h2 (3,0,1) (by simp));obtain ⟨m',rfl,es,e2,_,h4⟩:=GI (e:=26) (sz:=1) (ag:=false) (by kernel_rfl) (h2 (36,1,1) (by simp));obtain ⟨rs,rfl,_⟩:=Cb (f:=fun r=>.ps 1 (ints r)) (p:=fun _=>True) es fun x hx=>by
  obtain ⟨g1,g2⟩:=h4 x hx;obtain ⟨l,g3,_⟩:=Yj8 g2;exact ⟨l,Gf g1 g3,trivial⟩
 refine ⟨⟨i,rs⟩,Gm (h0.trans (by kernel_rfl)) rfl ?_⟩;generalize a.cells=cs at *
 obtain ⟨x,y,rfl⟩:=EE h1;simp at e1 e2;subst e1 e2;rfl
theorem Q7 (n:Nat) (cs:List ah) (h:mG Tryz.prog n 74 cs):∃ l:Li,cs=l.aM.cells∧l.l.fit∧l.r.fit:=by
 obtain ⟨m,rfl,h1,h2⟩:=Jy (L:=[(4,0,1),(70,1,2),(70,3,2)]) (N:=5) (by kernel_rfl) (by kernel_rfl) h;obtain ⟨b,e1⟩:=WY (by kernel_rfl) (h2 (4,0,1) (by simp));obtain ⟨l,e2,f2⟩:=RB m _ (h2 (70,1,2) (by simp));obtain ⟨r,e3,f3⟩:=RB m _ (h2 (70,3,2) (by simp));obtain ⟨x1,x2,x3,x4,x5,rfl⟩:=P_ h1;rw [fL] at e2 e3;simp at e1 e2 e3;obtain ⟨rfl,rfl⟩:=e2;obtain ⟨rfl,rfl⟩:=e3;subst e1;exact ⟨⟨b,l,r⟩,rfl,f2,f3⟩
theorem Ytc {a:ah} (h:z7 Tryz.prog 23 a):∃ es:List (List Li),a = .ps 1 (dp es)∧∀ c∈es,qe c:=by
 obtain ⟨m,es,rfl,h4,h5⟩:=Vy (e:=24) (sz:=1) (ag:=false) (by kernel_rfl) (by kernel_rfl) h;obtain ⟨c,rfl,hc⟩:=Cb (f:=fun c=>.ps 5 (lits c)) (p:=qe) es fun x hx=>by
  obtain ⟨g1,g2⟩:=h5 x hx;obtain ⟨m',_,tb,e2,_,h6⟩:=GI (e:=74) (sz:=5) (ag:=true) (by kernel_rfl) g2;obtain ⟨c,rfl,hc⟩:=Cb (f:=Li.aM) (p:=fun l=>l.l.fit∧l.r.fit) tb fun y hy=>by
   obtain ⟨k1,k2⟩:=h6 y hy;obtain ⟨s,g3,g4⟩:=Q7 m' _ k2;exact ⟨s,Gm k1 rfl g3,g4⟩
  exact ⟨c,Gf g1 e2,hc⟩
 exact ⟨c,rfl,hc⟩
theorem Yho {a:ah} (h:z7 Tryz.prog 24 a):∃ c:List Li,a = .ps 5 (lits c)∧qe c∧c.length≤2600000000000:=by
 obtain ⟨h1,n,h2⟩:=h;obtain ⟨m,_,es,h3,h4,h5⟩:=U9 (e:=74) (sz:=5) (ag:=true) (by kernel_rfl) h2;have e1:a = .ps 5 es:=Gf (h1.trans (by kernel_rfl)) h3;subst e1;obtain ⟨c,rfl,hc⟩:=Cb (f:=Li.aM) (p:=fun l=>l.l.fit∧l.r.fit) es fun x hx=>by
  obtain ⟨g1,g2⟩:=h5 x hx;obtain ⟨s,g3,g4⟩:=Q7 m _ g2;exact ⟨s,Gm g1 rfl g3,g4⟩
 refine ⟨c,rfl,hc,?_⟩;have hb:Tryz.prog.bytesOf 74=72:=by kernel_rfl
 have h6:=h4.2;rw [hb,aj] at h6;unfold reachBytes at h6;omega
end Go.Proofs
namespace Go.Proofs
open Go Go.dm
attribute [local go_sem] Nat.reduceAdd Nat.reduceSub Nat.reduceMul Nat.reduceLeDiff Nat.reduceEqDiff Nat.reduceBEq Nat.reduceLT Nat.le_refl Int.natCast_zero Nat.sub_zero List.length_map Int.toNat_natCast Int.natCast_one Int.reduceEq Int.reduceLT Int.reduceLE Int.reduceNe Int.sub_zero Int.zero_add Int.toNat_one
theorem Yha {c:List Li}:∀ l∈c,l.l.size≤Tm.bG (ck c)∧l.r.size≤Tm.bG (ck c):=by
 induction c with
 | nil=>intro l hl;cases hl
 | cons a c ih =>
  intro l hl;have e:Tm.bG (ck (a :: c))=a.l.size+(a.r.size+Tm.bG (ck c)):=rfl;rw [e];rcases aQ.1 hl with rfl | hl
  ·omega
  ·have:=ih l hl;omega
theorem Yt4 {c:List Li} (h:qc c=true):Tm.bG (ck c)≤80∧c.length≤8:=by
 unfold qc at h;simp only [aB,decide_eq_true_eq] at h;have:=(T4 (m:=80) (by omega) (ck c) 0 (by omega) (by omega)).2 h.1;omega
theorem Ub {c:List Li} (h:jj c=true):Tm.bG (ck c)≤500∧c.length≤40:=by
 unfold jj at h;simp only [aB,decide_eq_true_eq] at h;have:=(Ua (ck c) 0 (by omega) (by omega)).2 h.2;omega
theorem Q9:∀ (es:List (List Li)) (n:Int),(kW es n).1=true→∀ c∈es,jj c=true
 | [],_,_,c,hc=>by cases hc
 | d :: es,n,h,c,hc=>by
  rw [kW] at h;split at h
  ·rename_i h1;rcases aQ.1 hc with rfl | hc
   ·exact h1
   ·exact Q9 es _ h c hc
  ·cases h
theorem NM {es:List (List Li)} (h:pE es=true):es.length≤8∧∀ c∈es,jj c=true:=by
 unfold pE at h;simp only [aB,decide_eq_true_eq] at h;exact ⟨h.1,Q9 es 0 h.2.1⟩
theorem Vo {c:List Li} (h:Tm.bG (ck c)≤1000):pn c:=fun i hi=>by
 have:=Yha (c:=c) _ (aC hi);omega
theorem Yxl {es:List (List Li)} {c:List Li} (h1:pE es=true) (h2:qc c=true) (f1:∀ x∈es,qe x) (f2:qe c):su es c:=by
 obtain ⟨a1,a2⟩:=NM h1;refine ⟨by omega,fun x hx=>?_⟩;rcases aQ.1 hx with rfl | hx
 ·exact ⟨Vo (by have:=(Yt4 h2).1;omega),f2⟩
 ·exact ⟨Vo (by have:=(Ub (a2 x hx)).1;omega),f1 x hx⟩
def nV (bs:List Bd) (v:Int):Tm:=((bs.find? fun b=>b.v==v).map Bd.t).getD (.mk (-1 - v) [])
mutual
def Tm.pd (bs:List Bd):Tm→Tm
 | .mk h ts=>if h<0 then nV bs (-1 - h) else .mk h (Tm.KL bs ts)
def Tm.KL (bs:List Bd):List Tm→List Tm
 | []=>[]
 | t :: ts=>t.pd bs :: Tm.KL bs ts
end
theorem yO {t:Tm} (h:t.good=true) : -256≤t.head∧t.head≤1023∧t.args.length≤8∧(t.head<0→t.args=[]):=by
 obtain ⟨k,ts⟩:=t;rw [Tm.good] at h;simp only [aB,bw,bK,decide_eq_false_iff_not,db] at h;simp only [Tm.head,Tm.args];refine ⟨by omega,by omega,by omega,fun hn=>?_⟩;rcases h.1.1.1.1 with h1 | h1
 ·exact absurd hn h1
 ·exact bg (by omega)
theorem UI:∀ {ts:List Tm},Tm.fH ts=true→∀ t∈ts,t.good=true
 | x :: ts,h,t,ht=>by
  rw [Tm.fH,aB] at h;rcases aQ.1 ht with rfl | ht
  ·exact h.1
  ·exact UI h.2 t ht
theorem yM {t:Tm} (h:t.good=true):∀ u∈t.args,u.good=true:=by
 obtain ⟨k,ts⟩:=t;rw [Tm.good,aB] at h;exact UI h.2
mutual
def kx:Tm→Tm→List Bd→List Bd×Bool
 | .mk h ts,u,s=>if h<0 then (match s.find? (fun b=>b.v == -1 - h) with | some b=>(s,decide (b.t=u)) | none=>(s++[⟨-1 - h,u⟩],true))
  else if h≠u.head∨ts.length≠u.args.length then (s,false) else iB ts u.args s
def iB:List Tm→List Tm→List Bd→List Bd×Bool
 | [],_,s=>(s,true)
 | _ :: _,[],s=>(s,true)
 | t :: ts,u :: us,s=>if (kx t u s).2=true then iB ts us (kx t u s).1 else (s,false)
end
@[go_sem] theorem Xf1 (l:List Bd):eW ⟨3,true,40,[.int .i64 0, .int .i64 0, .aW], .struct⟩ (oJ l)=True:=eq_true (by
 refine ⟨fun x hx=>?_,by decide,by decide,rfl⟩;obtain ⟨t,_,rfl⟩:=cB.1 hx;exact ⟨rfl,rfl⟩)
mutual
theorem QD {P:Tm→Prop} (hP:∀ t,P t→∀ u∈t.args,P u):∀ (t u:Tm) (s:List Bd),P u→(∀ b∈s,P b.t)→∀ b∈(kx t u s).1,P b.t
 | .mk h ts,u,s,hu,hs=>by
  rw [kx];split
  ·split
   ·exact hs
   ·intro b hb;rcases aY.1 hb with hb | hb
    ·exact hs b hb
    ·rw [aL.1 hb];exact hu
  ·split
   ·exact hs
   ·exact VO hP ts u.args s (hP u hu) hs
theorem VO {P:Tm→Prop} (hP:∀ t,P t→∀ u∈t.args,P u):∀ (ts us:List Tm) (s:List Bd),(∀ u∈us,P u)→(∀ b∈s,P b.t)→∀ b∈(iB ts us s).1,P b.t
 | [],_,s,_,hs=>by rw [iB];exact hs
 | _ :: _,[],s,_,hs=>by rw [iB];exact hs
 | t :: ts,u :: us,s,hu,hs=>by
  rw [iB];have h1:=QD hP t u s (hu u (by simp)) hs;split
  ·exact VO hP ts us _ (fun x hx=>hu x (by simp [hx])) h1
  ·exact hs
end
def ux (l:List Tm):Bool:=l.all fun t=>decide (t.check=0)
def xL (p t:List Tm):List Bd×Bool:=if (iB p t []).2=true then iB p t [] else ([],false)
def EP (s:List Bd) (v:Nat):Option Bd:=if (nV s v).head = -1 - (v:Int) then none else some ⟨v,nV s v⟩
def C2 (s:List Bd) (n:Nat):List Bd:=(List.range n).filterMap (EP s)
def vN (s:List Bd):List Bd:=C2 s 256
def iq (p t:List Tm):List Bd×Bool×Int :=
 if ux p=false∨ux t=false∨p.length≠t.length then ([],false,1) else if (xL p t).2=false then ([],false,0) else (vN (xL p t).1,true,0)
theorem Ue {t u:Tm} (h:u∈t.args):u.depth<t.depth:=by
 obtain ⟨k,ts⟩:=t;have key:∀ ts:List Tm,u∈ts→u.depth≤Tm.fW ts:=by
  intro ts
  induction ts with
  | nil=>intro h;cases h
  | cons a ts ih =>
   intro h;rw [Tm.fW];rcases aQ.1 h with rfl | h
   ·omega
   ·have:=ih h;omega
 have:=key ts h;rw [Tm.depth];omega
theorem TL {g:List Sy}:∀ {ts:List Tm},Tm.d_ g ts=true→∀ u∈ts,u.known g=true
 | a :: ts,h,u,hu=>by
  rw [Tm.d_,aB] at h;rcases aQ.1 hu with rfl | hu
  ·exact h.1
  ·exact TL h.2 u hu
theorem Ur {g:List Sy}:∀ {ts:List Tm},Tm.eh g ts=true→∀ u∈ts,u.cd g=false∧u.fE g=true
 | a :: ts,h,u,hu=>by
  rw [Tm.eh,aB,aB,bw] at h;rcases aQ.1 hu with rfl | hu
  ·exact h.1
  ·exact Ur h.2 u hu
theorem Yt1 {g:List Sy} {t:Tm} (hs:eg g=true) (h1:t.check=0) (h2:t.known g=true) (h3:t.fE g=true):t.term g=0:=by
 unfold Tm.term;rw [if_neg (by rw [hs];simp),if_neg (by simp [h1]),if_neg (by rw [h2];simp),if_neg (by rw [h3];simp)]
theorem QM {t:Tm} (h1:t.size≤400) (h2:t.depth≤40) (h3:t.good=true):t.check=0:=by
 unfold Tm.check;rw [if_neg (by omega),if_neg (by omega),if_pos h3]
theorem Yfq {g:List Sy} {t:Tm} (h:t.term g=0):∀ u∈t.args,u.term g=0∧u.cd g=false:=fun u hu=>by
 have hs:=Lp h;obtain ⟨h1,h2,h3⟩:=mg h;obtain ⟨c1,c2,c3⟩:=ru h1;have z1:=uD hu;have z2:=po t;have z3:=Ue hu;have z4:=yM c3 u hu;obtain ⟨k,ts⟩:=t;have BH:Tm.d_ g ts=true:=by
  rw [Tm.known] at h2;simp only [bR,aB,decide_eq_true_eq] at h2;rcases h2 with h2 | h2
  ·have:=(yO c3).2.2.2 h2;rw [this] at hu;cases hu
  ·exact h2.2
 obtain ⟨y1,y2⟩:=Ur (by rwa [Tm.fE] at h3) u hu;exact ⟨Yt1 hs (QM (by omega) (by omega) z4) (TL BH u hu) y2,y1⟩
theorem MS {g:List Sy}:∀ t,jd g t→∀ u∈t.args,jd g u:=fun t h u hu=>⟨(Yfq h.1 u hu).1,xF (yo h.2) u hu⟩
mutual
def Tm.cv (v:Int):Tm→Nat
 | .mk h ts=>(if h = -1 - v then 1 else 0)+Tm.Cx v ts
def Tm.Cx (v:Int):List Tm→Nat
 | []=>0
 | t :: ts=>t.cv v+Tm.Cx v ts
end
mutual
def Tm.mV (g:List Sy):Tm→Int
 | .mk h ts=>if h<0 then 1 else Tm.qw g ts (n6 g h)
def Tm.qw (g:List Sy):List Tm→Int→Int
 | [],n=>n
 | t :: ts,n=>Tm.qw g ts (n+t.mV g)
end
theorem M_ (g:List Sy):∀ (ts:List Tm) (n m:Int),Tm.qw g ts (n+m)=Tm.qw g ts n+m
 | [],n,m=>rfl
 | t :: ts,n,m=>by rw [Tm.qw,Tm.qw,show n+m+t.mV g=n+t.mV g+m by omega,M_ g ts]
def gZ (a b:Tm):Bool:=b.vars.all fun v=>decide (b.cv v≤a.cv v)
mutual
def Tm.gr (g:List Sy):Tm→Tm→Bool
 | .mk h ts,u=>if gZ (.mk h ts) u=false then false else if (Tm.mk h ts).mV g≠u.mV g then decide (u.mV g<(Tm.mk h ts).mV g) else
  if h<0∨u.head<0 then false else if h≠u.head then decide (u.head<h) else Tm.td g ts u.args
def Tm.td (g:List Sy):List Tm→List Tm→Bool
 | [],_=>false
 | _ :: _,[]=>false
 | t :: ts,u :: us=>if t=u then Tm.td g ts us else t.gr g u
end
theorem Yw7 {g:List Sy} {t u:Tm} (ht:jd g t) (hu:jd g u) (h0 : 0≤t.head) (he:t.head=u.head):t.args.length=u.args.length:=by
 have h1:=J4 (J6 ht).2.2.1 h0;have h2:=J4 (J6 hu).2.2.1 (by omega);rw [he] at h1;omega
def fk (p:Nat→Bool):Nat→Nat→Option Nat
 | 0,_=>none
 | n+1,k=>if p k then some k else fk p n (k+1)
def KN {α:Type} (same : α→α→Bool) (b:List α) (us:List Bool) (x : α) (k:Nat):Bool:=!us.getD k false&&(match b[k]? with | some y=>same x y | none=>false)
theorem Y5 {α:Type} {same : α→α→Bool} {b:List α} {us:List Bool} {x : α} {k:Nat} (h:k<b.length):KN same b us x k=(!us.getD k false&&same x b[k]):=by simp [KN,h]
def u_ (x y:Tm):Bool:=decide (x=y)
def yF {α:Type} (same : α→α→Bool) (b:List α):List α→List Bool→List α
 | [],_=>[]
 | x :: a,us=>match fk (KN same b us x) b.length 0 with
  | none=>x :: yF same b a us
  | some k=>yF same b a (us.set k true)
def gT (l:List Bool):List ah:=l.map .bool
theorem Df (l:List Bool):(gT l).length=l.length:=by simp [gT]
theorem sY {n:Nat} (l:List Bool):bF n (gT l):=uU fun _ _=>trivial
theorem Jp {l:List Bool} {i:Nat} (h:i<l.length):(gT l).getD i .undef = .bool (l.getD i false):=by simp [gT,List.getD,h]
theorem Yjp (n:Nat):List.replicate n (ah.bool false)=gT (List.replicate n false):=by simp [gT]
def qq {α:Type} (gt : α→α→Bool) (a b:List α):Bool:=(b.all fun y=>a.any fun x=>gt x y)&&decide (0<a.length)
theorem Yoj {α:Type} (gt : α→α→Bool) (a b:List α) (y : α):qq gt a (y :: b)=((a.any fun x=>gt x y)&&qq gt a b):=by simp [qq,nz]
def wQ {α:Type} (same gt : α→α→Bool) (a b:List α):Int :=
 if (yF same b a (List.replicate b.length false)).length+(yF same a b (List.replicate a.length false)).length=0 then 0 else
 if qq gt (yF same b a (List.replicate b.length false)) (yF same a b (List.replicate a.length false))=true then 1 else
 if qq gt (yF same a b (List.replicate a.length false)) (yF same b a (List.replicate b.length false))=true then -1 else 2
def B2 (g:List Sy) (a b:Li):Int:=wQ u_ (Tm.gr g) (l7 a) (l7 b)
def CY (g:List Sy) (l:Li):Prop:=jd g l.l∧jd g l.r
theorem QY {g:List Sy} {l:Li} (h:CY g l):∀ x∈l7 l,jd g x:=fun x hx=>by
 rcases Nc hx with rfl | rfl
 ·exact h.1
 ·exact h.2
def vM (g:List Sy) (c d:List Li):Int:=wQ fw (fun x y=>decide (B2 g x y=1)) c d
def il (l:Li) (n:Int):Tm×Tm:=if n=0 then (l.l,l.r) else (l.r,l.l)
theorem Yuc {P:Tm→Prop} {s:List Bd} (h:∀ b∈s,P b.t) {v:Int} (hv:P (.mk (-1 - v) [])):P (nV s v):=by
 unfold nV;cases hf:s.find? (fun b=>b.v==v) with
 | some b=>exact h b (cb hf)
 | none=>exact hv
def p_ (x y:Tm):Li:=⟨false,x,y⟩
def xy (g:List Sy) (e:Li) (n:Int) (u:Tm) (c:List Li):Tm×Bool :=
 if (il e n).1.head=0∨(il e n).1.cd g≠u.cd g∨within (il e n).2 (il e n).1=false then (u,false) else
 if (iq [(il e n).1] [u]).2.2≠0∨(iq [(il e n).1] [u]).2.1=false then (u,false) else
 if aZ g [p_ ((il e n).1.pd (iq [(il e n).1] [u]).1) ((il e n).2.pd (iq [(il e n).1] [u]).1)]≠0 ∧
  aZ g [p_ ((il e n).2.pd (iq [(il e n).1] [u]).1) ((il e n).1.pd (iq [(il e n).1] [u]).1)]≠0 then (u,false) else
 if ((il e n).1.pd (iq [(il e n).1] [u]).1).gr g ((il e n).2.pd (iq [(il e n).1] [u]).1)=false ∨
  vM g [p_ ((il e n).1.pd (iq [(il e n).1] [u]).1) ((il e n).2.pd (iq [(il e n).1] [u]).1)] c≠-1 then (u,false) else
 ((il e n).2.pd (iq [(il e n).1] [u]).1,true)
theorem K5 {g:List Sy} {x y:Tm} (h:aZ g [p_ x y]=0):x.term g=0∧y.term g=0:=by
 have h1:=(w8 h).2.2 (p_ x y) (by simp);exact Cd h1
end Go.Proofs
