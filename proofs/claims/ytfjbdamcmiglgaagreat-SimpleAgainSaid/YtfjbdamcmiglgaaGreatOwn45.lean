/- Part 45 of my own framework and of the walks of functions: Ss, Sr, St, AcsZa, Su, Sv, Sw, Sx, Sy, Ua, Ub, Uc, Ud, Ue, Uf, Ug, Uh, Ui, Uj, Uk, Ul, Um, Un, Uo, Up, Uq, Ur, Us, Ut, Uu, Uv, Va, Vb, Vc, Vd, Ve, Wa, Wb, Wc, Wd, We, Wf, Wg, Wh, Wi, Wj, Wk, Wl, Wm, Wn, Wo, Wp, Wq, Wr, Ws. -/
import Derived.Test.YtfjbdamcmiglgaaGreatOwn44
import Derived.Shelf.Sort.Plain
import Derived.Shelf.Slices.In.SortNone
import Derived.Test.YtfjbdamcmiglgaaGreatProg
abbrev dg:=@Bool.false_and
abbrev gL:=@List.find?_some
abbrev pA:=@List.map_set
abbrev nK:=@List.mem_or_eq_of_mem_set
abbrev jU:=@List.mergeSort_perm
set_option linter.unusedVariables false
set_option linter.unusedSectionVars false
set_option linter.unusedSimpArgs false
namespace Go.Proofs
open Go.Shelf
def Tryz.lays189_ren:Go.Shelf.Ren:=⟨fun | 189=>225 | 125=>238 | 257=>237 | 128=>256 | 129=>257 | 294=>247 | 295=>248 | 296=>249 | 297=>250 | 298=>251 | 299=>252 | 216=>253 | 300=>254 | 301=>255 | 328=>260 | 329=>261 | 330=>262 | 331=>263 | 332=>264 | 215=>265 | 343=>266 | n=>n,fun | 28=>26 | 3=>3 | 46=>265 | 0=>0 | 51=>279 | 53=>281 | 4=>4 | 183=>272 | 182=>271 | 131=>135 | 5=>5 | 9=>9 | 218=>282 | 222=>286 | 228=>288 | 229=>289 | n=>n,fun | n=>n⟩
theorem Tryz.lays189:Go.Proofs.Lays.n189 Tryz.prog Tryz.lays189_ren:={
 mixed:=by kernel_rfl
 f125:=Tryz.func238.trans (congrArg some (by kernel_rfl))
 f128:=Tryz.func256.trans (congrArg some (by kernel_rfl))
 f129:=Tryz.func257.trans (congrArg some (by kernel_rfl))
 f189:=Tryz.func225.trans (congrArg some (by kernel_rfl))
 f215:=Tryz.func265.trans (congrArg some (by kernel_rfl))
 f216:=Tryz.func253.trans (congrArg some (by kernel_rfl))
 f257:=Tryz.func237.trans (congrArg some (by kernel_rfl))
 f294:=Tryz.func247.trans (congrArg some (by kernel_rfl))
 f295:=Tryz.func248.trans (congrArg some (by kernel_rfl))
 f296:=Tryz.func249.trans (congrArg some (by kernel_rfl))
 f297:=Tryz.func250.trans (congrArg some (by kernel_rfl))
 f298:=Tryz.func251.trans (congrArg some (by kernel_rfl))
 f299:=Tryz.func252.trans (congrArg some (by kernel_rfl))
 f300:=Tryz.func254.trans (congrArg some (by kernel_rfl))
 f301:=Tryz.func255.trans (congrArg some (by kernel_rfl))
 f328:=Tryz.func260.trans (congrArg some (by kernel_rfl))
 f329:=Tryz.func261.trans (congrArg some (by kernel_rfl))
 f330:=Tryz.func262.trans (congrArg some (by kernel_rfl))
 f331:=Tryz.func263.trans (congrArg some (by kernel_rfl))
 f332:=Tryz.func264.trans (congrArg some (by kernel_rfl))
 f343:=Tryz.func266.trans (congrArg some (by kernel_rfl))
 t0:=Tryz.underlying0
 a0:=Tryz.isAgg0
 z0:=Tryz.sizeOf0
 v0:=Tryz.zeroValue0
 t3:=Tryz.underlying3
 a3:=Tryz.isAgg3
 z3:=Tryz.sizeOf3
 v3:=Tryz.zeroValue3
 t4:=Tryz.underlying4
 a4:=Tryz.isAgg4
 z4:=Tryz.sizeOf4
 v4:=Tryz.zeroValue4
 t5:=Tryz.underlying5
 a5:=Tryz.isAgg5
 z5:=Tryz.sizeOf5
 v5:=Tryz.zeroValue5
 t9:=Tryz.underlying9
 a9:=Tryz.isAgg9
 z9:=Tryz.sizeOf9
 v9:=Tryz.zeroValue9
 t28:=Tryz.underlying26
 a28:=Tryz.isAgg26
 z28:=Tryz.sizeOf26
 v28:=Tryz.zeroValue26
 t46:=Tryz.underlying265
 a46:=Tryz.isAgg265
 z46:=Tryz.sizeOf265
 v46:=Tryz.zeroValue265
 t51:=Tryz.underlying279
 a51:=Tryz.isAgg279
 z51:=Tryz.sizeOf279
 v51:=Tryz.zeroValue279
 t53:=Tryz.underlying281
 a53:=Tryz.isAgg281
 z53:=Tryz.sizeOf281
 v53:=Tryz.zeroValue281
 t131:=Tryz.underlying135
 a131:=Tryz.isAgg135
 z131:=Tryz.sizeOf135
 v131:=Tryz.zeroValue135
 t182:=Tryz.underlying271
 a182:=Tryz.isAgg271
 z182:=Tryz.sizeOf271
 v182:=Tryz.zeroValue271
 t183:=Tryz.underlying272
 a183:=Tryz.isAgg272
 z183:=Tryz.sizeOf272
 v183:=Tryz.zeroValue272
 t218:=Tryz.underlying282
 a218:=Tryz.isAgg282
 z218:=Tryz.sizeOf282
 v218:=Tryz.zeroValue282
 t222:=Tryz.underlying286
 a222:=Tryz.isAgg286
 z222:=Tryz.sizeOf286
 v222:=Tryz.zeroValue286
 t228:=Tryz.underlying288
 a228:=Tryz.isAgg288
 z228:=Tryz.sizeOf288
 v228:=Tryz.zeroValue288
 t229:=Tryz.underlying289
 a229:=Tryz.isAgg289
 z229:=Tryz.sizeOf289
 v229:=Tryz.zeroValue289 }
open Go.Sort Go.RowKit in
theorem Tryz.slices_Sort_int (cg off cap:Nat) (zs:List Int) (w:World) (hH:Holds (Value.int .i64) w cg off zs.toArray) (yk:cg<w.heap.size) (fH:zs.length<4611686018427387904) :
  Calls Tryz.prog 225 #[.slice (some ⟨cg,off,none⟩) zs.length cap] w fun e w' =>
   e = .returned (.tuple #[])∧∃ n os,w'=grow (putRow (Value.int .i64) (Sort.ahead w n) cg off (zs.mergeSort fun x y=>decide (x≤y)).toArray) os:=Any.slices_Sort_int Tryz.lays189 cg off cap zs w hH yk fH
open Go.RowKit Go.Sort in
theorem Tryz.slices_Sort_int_none (p:Option Addr) (cap:Nat) (w:World) :
  Calls Tryz.prog 225 #[.slice p 0 cap] w fun e w'=>e = .returned (.tuple #[])∧w'=w:=Any.slices_Sort_int_none Tryz.lays189 p cap w
end Go.Proofs
namespace Go.Proofs
open Go Go.c8
attribute [local go_sem] Nat.reduceAdd Nat.reduceSub Nat.reduceMul Nat.reduceLeDiff Nat.reduceEqDiff Nat.reduceBEq Nat.reduceLT Nat.le_refl Int.natCast_zero Nat.sub_zero List.length_map Int.toNat_natCast Int.natCast_one Int.reduceEq Int.reduceLT Int.reduceLE Int.reduceNe Int.sub_zero Int.zero_add Int.toNat_one
theorem X3 {m n b:Nat} (h:b<m∨n≤b):aw m n (.it b):=fun ρ dO=>by simp only [dL,dO b h]
theorem Ypu {m n:Nat} {ks vs:List ae} {seen:List Nat} (hk:bz 0 ks) (hv:bz 0 vs):Jk m n (some (.lu ks vs seen)):=fun ρ dO y hy=>by
 cases hy;simp only [dI,cI hk,cI hv]
theorem Ud {σ:ai} {x:Option bE} {n:Nat} (h : σ.length=n):bH (σ++[x]) n=x:=by subst h;simp [bH]
theorem ZR {σ:ai} {x:Option bE} {B:bE} {n:Nat} (h : σ.length=n):b_ (σ++[x]) n B = σ++[some B]:=by subst h;simp [b_]
theorem IU:∀ (σ τ:ai),iy σ (σ++τ)
 | [],_=>trivial
 | a :: σ,τ=>⟨.inl rfl,IU σ τ⟩
theorem Yjc (kv:List Int) (vs:List ae) (mB:bz 0 vs) (n0:Nat) (ku:ai) (S:List Nat→ai) (p:Nat) (y:ae) (h0 : ku.length=n0) (yf : ku++[none]=S []) (hlen:∀ i,(S i).length=n0+1) (eL:∀ i,bH (S i) p=some (.var [.pm (ints kv) vs])) (hp:p<n0)
  (hs:∀ i,bw (n0+1) (S i)) (nT:bw n0 ku) (nV:y.low n0)
  (hy:∀ (seen:List Nat) (j:Nat) (h:j<kv.length),j ∉ seen→seen.Nodup→(∀ i∈seen,i<kv.length)→aq Tryz.prog y [.int .i64 kv[j]] (S seen) (fun r σ'=>r = .bool true∧n0+1≤σ'.length∧bw σ'.length σ'∧∃ π:Nat→Nat,(∀ b,b<n0→π b=b)∧(∀ b b',b<n0+1→b'<n0+1→π b = π b'→b=b')∧gE π σ' 0 (S (seen++[j])))) :
  aq Tryz.prog (.fn 226 [] [.ptr p 0]) [y] ku (fun _ σ'=>∃ seen:List Nat,seen.Nodup∧(∀ i,i∈seen↔i<kv.length)∧σ'=S seen):=by
 subst h0
 refine aq.mq (rs:=[]) (m:=12) Tryz.func226 rfl rfl rfl rfl rfl ?_
 refine aK.pad 1 (ah _) (by simp [go_sem,nV,hp]) nT ?_
 rw [show List.replicate 1 (none:Option bE)=[none] from rfl,yf]
 refine aK.go 1000 ?_
 simp only [go_sem,eL,ah]
 rw [Bu,hlen]
 have G4:∀ seen,bw (ku.length+2) [some (bE.lu (ints kv) vs seen)]:=fun seen=>⟨⟨dB _,iC (av _) mB⟩,trivial⟩
 have ql:∀ seen,bw (ku.length+2) (S seen++[some (bE.lu (ints kv) vs seen)]):=fun seen=>py (nL (by omega) (hs seen)) (G4 seen)
 refine aK.dc (ι:={seen:List Nat // seen.Nodup∧∀ i∈seen,i<kv.length}) 1000 (fun q=>f_ 14 [(0,y),(5, .it (ku.length+1))]) (fun q=>S q.1++[some (.lu (ints kv) vs q.1)]) (fun q=>tv kv.length q.1) ⟨[],kU,fun i hi=>by cases hi⟩ ?_ (fun q=>by rw [ay,hlen];simp only;omega) ?_
 ·simp only [go_sem,ay,hlen,ax,aS,ql,m_ (m:=ku.length+1+1) (bO _ 2) nV]
  exact ⟨fN _,by omega⟩
 ·rintro ⟨seen,pg,bG⟩
  simp only [go_sem]
  have hgm:bH (S seen++[some (bE.lu (ints kv) vs seen)]) (ku.length+1)=some (.lu (ints kv) vs seen):=Ud (hlen seen)
  refine ⟨ku.length+1,ints kv,vs,seen,rfl,hgm,fun j hj hn=>?_,fun e8=>?_⟩
  ·rw [lF] at hj
   rw [ZR (hlen seen),xy hj]
   have hz:ae.low 0 (vs.getD j .undef):=ji mB j
   obtain ⟨z,B1⟩:∃ z,vs.getD j .undef=z:=⟨_,rfl⟩
   rw [B1] at hz ⊢
   have MX:aw ku.length (ku.length+1) (.dA [.bool true, .int .i64 kv[j],z]):=CB (m_ (av _) (show ae.low 0 _ from ⟨trivial,trivial,hz,trivial⟩))
   have MY:aw ku.length (ku.length+1) (.dA [.int .i64 kv[j],z]):=CB (m_ (av _) (show ae.low 0 _ from ⟨trivial,hz,trivial⟩))
   have NC:(seen++[j]).Nodup:=by
    rw [gO]
    exact ⟨pg,by simp,fun a ha b hb=>by rw [aM.1 hb];exact fun e=>hn (e ▸ ha)⟩
   have aZ:∀ i∈seen++[j],i<kv.length:=fun i hi=>by
    rcases aW.1 hi with hi | hi
    ·exact bG i hi
    ·rw [aM.1 hi];exact hj
   have Nk:bH (S seen++[some (bE.lu (ints kv) vs (seen++[j]))]) (ku.length+1)=some (.lu (ints kv) vs (seen++[j])):=Ud (hlen seen)
   refine aK.go 1000 ?_
   simp only [go_sem,Nk,xy hj,B1]
   refine aK.qO (σ:=S seen) (τ:=[some (bE.lu (ints kv) vs (seen++[j]))]) (.bool true) trivial (by rw [hlen];exact dN _) ?_ ?_ ?_ ?_ ?_ ?_ ?_ ?_
   ·rw [hlen];exact m_ (dN _) nV
   ·simp [go_sem]
   ·rw [hlen];exact hs seen
   ·rw [hlen]
    have hit:=X3 (m:=ku.length) (n:=ku.length+1) (b:=ku.length+1) (.inr (ah _))
    simp [go_sem,D8,Ea,CB,nV,hit,MX,MY]
   ·rw [Sd,Tt]
    exact ⟨Ypu (dB _) mB,trivial⟩
   ·rw [hlen]
    have og:=m_ (m:=ku.length+1+1) (bO _ 2) nV
    have hvg:=m_ (av (ku.length+1+1)) hz
    simp [go_sem,og,hvg]
   ·rw [hlen];exact G4 _
   refine (hy seen j hj hn pg bG).mono ?_
   rintro r σ' ⟨k1,k2,k3,π,k4,k5,k6⟩
   rw [hlen]
   refine ⟨k1,k2,k3,π,S (seen++[j]),hlen _,k4,k5,k6,hs _,?_⟩
   refine aK.go 1000 ?_
   simp only [go_sem]
   refine ⟨⟨seen++[j],NC,aZ⟩,?_,Tb hj hn⟩
   simp only [go_sem,ay,hlen,ax,aS,ql,m_ (m:=ku.length+1+1) (bO _ 2) nV]
   exact ⟨fN _,by omega⟩
  ·refine aK.go 1000 ?_
   simp only [go_sem]
   refine aK.go 1000 ?_
   simp only [go_sem]
   rw [fY]
   exact ⟨S seen,IU _ _,by rw [hlen];exact dN _,by rw [hlen];exact hs _,trivial,seen,pg,fun i=>⟨bG i,fun h=>e8 i (by rw [lF];exact h)⟩,rfl⟩
def nu (kv:List Int) (seen:List Nat):List Int:=seen.map fun j=>kv.getD j 0
theorem Yg0 {kv:List Int} {seen:List Nat} {j:Nat} (h:j<kv.length):nu kv (seen++[j])=nu kv seen++[kv[j]]:=by simp [nu,List.getD,h]
theorem Yks (kv:List Int) (seen:List Nat):(nu kv seen).length=seen.length:=by simp [nu]
theorem Zp2 (kv:List Int) (vs:List ae) (mB:bz 0 vs) (hl:kv.length<100000000) :
  aq Tryz.prog (.fn 236 [] []) [.aU, .fn 226 [] [.ptr 0 0]] [some (.var [.pm (ints kv) vs])]
   (fun r σ'=>∃ seen:List Nat,seen.Nodup∧(∀ i,i∈seen↔i<kv.length)∧r=jo 3 1 (ints (nu kv seen))∧σ'=[some (.var [.pm (ints kv) vs]),none,none,e9 (ints (nu kv seen))]):=by
 refine aq.begin (rs:=[.tmp 4]) (m:=11) 1000 Tryz.func236 rfl rfl rfl rfl rfl ?_
 simp only [go_sem]
 refine aK.rangeFunc (f_ 13 [(2, .ptr 1 0)]) ?_ ?_ (fun ρ ht vM lj qV=>?_)
 ·simp only [go_sem]
 ·exact fun b hb=>by cases hb
 simp only [go_sem]
 have jv:bz 3 ρ.tm:=by rw [ht];simp [go_sem,Ad,Aj]
 have fT:∀ l:List Int,bw 4 [some (.var [.pm (ints kv) vs]),some (.var [jo 3 1 (ints l)]),some (.loop (ρ.at .ready)),e9 (ints l)] :=
  fun l=>⟨⟨⟨dB _,iC (av _) mB⟩,trivial⟩,⟨Bz (by decide) 1 _,trivial⟩,iC (by decide) jv,Aa _ (dB _),trivial⟩
 refine (Yjc kv vs mB 3 _ (fun seen=>[some (.var [.pm (ints kv) vs]),some (.var [jo 3 1 (ints (nu kv seen))]),some (.loop (ρ.at .ready)),e9 (ints (nu kv seen))]) 0 (.lz 2) rfl rfl (fun _=>rfl) (fun _=>rfl) (by decide) (fun k=>fT _) ?_ (cG 2) (fun seen j hj hn pg bG=>?_)).mono ?_
 ·exact ⟨⟨⟨dB _,iC (av _) mB⟩,trivial⟩,⟨trivial,trivial⟩,jv,trivial⟩
 ·have yF:(nu kv seen).length≤kv.length:=by
   rw [Yks]
   have h1:seen.length≤(List.range kv.length).length:=List.Nodup.length_le_of_subset pg fun i hi=>cA.2 (bG i hi)
   rwa [List.length_range] at h1
  rw [Yg0 hj]
  generalize kv[j]=v at *
  generalize nu kv seen=L at *
  have wz:∀ b,b<3→pi [(3,5),(5,3)] b=b:=by decide
  refine aq.move [(3,5),(5,3)] (S':=[some (.var [.pm (ints kv) vs]),some (.var [.os 5 0 (L.length+1) 1]),some (.loop (ρ.at .ready)),none,none,some (.row (ints L++[.int .i64 v]) 0)]) ?_ ?_ rfl ?_ ?_
  ·exact bO 4 2
  ·exact ⟨⟨⟨dB _,iC (av _) mB⟩,trivial⟩,⟨cG 5,trivial⟩,iC (bO 3 3) jv,trivial,trivial,sl (dB _) ⟨trivial,trivial⟩,trivial⟩
  ·have tG:=Bv (pi [(3,5),(5,3)]) 3 wz (.loop (ρ.at .ready)) jv
   simp only [Cs,Fz,FL,HY,H3,KG,tG]
   simp [go_sem,cI mB,cI (dB _),cI (sl (dB L) (show bz 0 [ae.int .i64 v] from ⟨trivial,trivial⟩)),lF]
  refine aq.lV 1000 ht vM lj qV rfl rfl ?_
  simp only [go_sem,eQ,aM,forall_eq,cq,vl,lF]
  refine ⟨by omega,?_⟩
  rw [tZ]
  exact ⟨rfl,[some (.var [.pm (ints kv) vs]),some (.var [.os 5 0 (L.length+1) 1]),some (.loop (ρ.at .ready)),none,none,some (.row (ints L++[.int .i64 v]) 0)],by simp [go_sem],bO 4 2,⟨⟨⟨dB _,iC (av _) mB⟩,trivial⟩,⟨cG 5,trivial⟩,iC (bO 3 3) jv,trivial,trivial,sl (dB _) (show bz 6 [ae.int .i64 v] from ⟨trivial,trivial⟩),trivial⟩,rfl,rfl⟩
 rintro r' iZ ⟨seen,pg,e8,rfl⟩
 rw [CG]
 refine ⟨.ready,rfl,?_⟩
 rw [Ej]
 refine aK.go 1000 ?_
 simp only [go_sem]
 rw [fY]
 exact ⟨[some (.var [.pm (ints kv) vs]),none,none,e9 (ints (nu kv seen))],by simp [go_sem],by simp,⟨⟨⟨dB _,iC (av _) mB⟩,trivial⟩,trivial,trivial,Aa _ (dB _),trivial⟩,Bz (show 3<4 by decide) 1 _,seen,pg,e8,rfl,rfl⟩
theorem Zv8 (kv:List Int) (vs:List ae) (mB:bz 0 vs) (hl:kv.length<100000000) :
  aq Tryz.prog (.fn 224 [] []) [.fn 226 [] [.ptr 0 0]] [some (.var [.pm (ints kv) vs])]
   (fun r σ'=>∃ seen:List Nat,seen.Nodup∧(∀ i,i∈seen↔i<kv.length)∧r=jo 3 1 (ints (nu kv seen))∧σ'=[some (.var [.pm (ints kv) vs]),none,none,e9 (ints (nu kv seen))]):=by
 refine aq.begin (rs:=[.tmp 2]) (m:=4) 1000 Tryz.func224 rfl rfl rfl rfl rfl ?_
 simp only [go_sem]
 refine (Zp2 kv vs mB hl).mono ?_
 rintro r σ' ⟨seen,pg,e8,rfl,rfl⟩
 refine aK.go 1000 ?_
 simp only [go_sem]
 rw [fY]
 exact ⟨[some (.var [.pm (ints kv) vs]),none,none,e9 (ints (nu kv seen))],by simp [go_sem],by simp,⟨⟨⟨dB _,iC (av _) mB⟩,trivial⟩,trivial,trivial,Aa _ (dB _),trivial⟩,Bz (show 3<4 by decide) 1 _,seen,pg,e8,rfl,rfl⟩
def gx (l:List Int):List Int:=l.mergeSort fun x y=>decide (x≤y)
theorem Eh (l:List Int):(gx l).length=l.length:=List.length_mergeSort l
theorem Zzl {a b:List Int} (h:a.Perm b):gx a=gx b:=by
 have ht:∀ x y z:Int,decide (x≤y)=true→decide (y≤z)=true→decide (x≤z)=true:=fun x y z h1 h2=>by simp at *;omega
 have hc:∀ x y:Int,(decide (x≤y)||decide (y≤x))=true:=fun x y=>by simp;omega
 refine List.Perm.eq_of_pairwise (le:=fun x y=>decide (x≤y)=true) (fun x y _ _ h1 h2=>by simp at h1 h2;omega) (List.pairwise_mergeSort ht hc a) (List.pairwise_mergeSort ht hc b) ?_
 exact (jU a _).trans (h.trans (jU b _).symm)
theorem Yew {kv:List Int} {seen:List Nat} (pg:seen.Nodup) (e8:∀ i,i∈seen↔i<kv.length):(nu kv seen).Perm kv:=by
 have h1:seen.Perm (List.range kv.length):=(List.perm_ext_iff_of_nodup pg List.nodup_range).2 fun i=>by rw [e8,cA]
 have h2:=h1.map fun j=>kv.getD j 0
 have h3:(List.range kv.length).map (fun j=>kv.getD j 0)=kv:=by
  apply List.ext_getElem (by simp)
  intro i h4 h5
  simp [List.getD,h5]
 rw [h3] at h2
 exact h2
theorem Yf5 {b sz:Nat} {l l':List ae} (h:l.length=l'.length):jo b sz l=jo b sz l':=by
 cases l with
 | nil=>cases l' with
  | nil=>rfl
  | cons x l'=>simp at h
 | cons y l=>cases l' with
  | nil=>simp at h
  | cons x l'=>simp only [Ylk];rw [show l.length=l'.length by simpa using h]
theorem YM (kv:List Int) (vs:List ae) (mB:bz 0 vs) (hl:kv.length<100000000) :
  aq Tryz.prog (.fn 209 [] []) [.fn 226 [] [.ptr 0 0]] [some (.var [.pm (ints kv) vs])]
   (fun r σ'=>r=jo 3 1 (ints (gx kv))∧σ'=[some (.var [.pm (ints kv) vs]),none,none,e9 (ints (gx kv))]):=by
 refine aq.begin (rs:=[.tmp 2]) (m:=8) 1000 Tryz.func209 rfl rfl rfl rfl rfl ?_
 simp only [go_sem]
 refine (Zv8 kv vs mB hl).mono ?_
 rintro r σ' ⟨seen,pg,e8,rfl,rfl⟩
 have ET:=Yew pg e8
 rw [← Zzl ET]
 have WH:=ET.length_eq
 generalize nu kv seen=L at *
 have kz:∀ K:ae→ai→Prop,K (.dA []) [some (.var [.pm (ints kv) vs]),none,none,e9 (ints (gx L))]→aq Tryz.prog (.fn 225 [] []) [jo 3 1 (ints L)] [some (.var [.pm (ints kv) vs]),none,none,e9 (ints L)] K:=fun K hK=>by
  cases L with
  | nil =>
   rw [show ints []=[] from rfl,uW,tY]
   refine aq.A6 Tryz.func225 rfl rfl (fun a cap w=>Tryz.slices_Sort_int_none a cap w) ?_
   rw [show gx []=[] from aY (Eh []),show ints []=[] from rfl,tY] at hK
   exact hK
  | cons v L =>
   have ep:ints (v :: L)≠[]:=by simp [ints]
   have NF:ints (gx (v :: L))≠[]:=by
    intro e
    have:=congrArg List.length e
    rw [lF,Eh] at this;simp at this
   rw [CF ep,BA ep,lF]
   rw [BA NF] at hK
   exact aq.A7 (zs:=v :: L) (ts:=gx (v :: L)) Tryz.func225 rfl rfl rfl (Eh _) (fun w cg off cap hH hb=>Tryz.slices_Sort_int cg off cap _ w hH hb (by omega)) (fun a cap w=>Tryz.slices_Sort_int_none a cap w) hK
 refine aK.go 1000 ?_
 simp only [go_sem]
 refine kz _ ?_
 refine aK.go 1000 ?_
 simp only [go_sem]
 rw [fY,Yf5 (l':=ints (gx L)) (by rw [lF,lF,Eh])]
 exact ⟨[some (.var [.pm (ints kv) vs]),none,none,e9 (ints (gx L))],by simp [go_sem],by simp,⟨⟨⟨dB _,iC (av _) mB⟩,trivial⟩,trivial,trivial,Aa _ (dB _),trivial⟩,Bz (show 3<4 by decide) 1 _,rfl,rfl⟩
end Go.Proofs
namespace Go.c8
open Go
section
variable {P:Program} {lo:Ctx} {Q:cb→St→Prop} {tm:List ae} {σ:ai} {q:Nat} {ks vs:List ae} {fz:Bool}
theorem OL {X:Nat→Nat→Prop} {base mb:Nat} {D:List Deferred} {β:Env} {a:Act} {w:World} (hb:bH σ q=some (.map ks vs fz)) (h3:Rel X base mb D ⟨tm,σ⟩ β a w):Rel X base mb D ⟨tm.map (pN q ks vs),σ.set q none⟩ β a w:=by
 refine ⟨h3.s.less (fun c x hc=>(Eu hc).2) bg,by simpa using h3.n,fun k hk=>?_,h3.d⟩
 simp only [ak] at hk
 have:=Ml h3.s (j_ hb) (h3.t k hk)
 simpa [dp,hk] using this
theorem OW {n:Nat} {β β':Env} {w w':World} {σ':ai} (g3:Ext n (σ.set q none) β w σ' β' w'):Ext n σ β w σ' β' w' :=
 ⟨g3.os,g3.tape,g3.output,g3.size,fun g o v hc hn=>g3.cell g o v hc (fun hm=>hn (Ai hm)),fun g hg hn=>g3.block g hg (fun o hm=>hn o (Ai hm)),fun g o hm=>(g3.iL g o hm).imp Ai id,g3.env⟩
theorem aK.Az {all:Array Oper} {l:List Oper} {k:List KI} (hb:bH σ q=some (.map ks vs fz)) (he:aK P lo Q (.ops all l :: k) .normal ⟨tm.map (pN q ks vs),σ.set q none⟩):aK P lo Q (.ops all l :: k) .normal ⟨tm,σ⟩:=by
 simp only [aK] at he ⊢
 refine fun hs=>?_
 intro X base mb D β a w b k cs h1 h2 h3
 obtain ⟨e1,kp,eX,a1,w1,q,g1,g2,g3,g4⟩:=(he hs) X base mb D β a w b k cs (by simpa using h1) h2 (OL hb h3)
 exact ⟨e1,kp,eX,a1,w1,q,g1,g2,OW g3,g4⟩
end
section
variable {q:Nat} {ks vs:List ae}
@[go_sem] theorem Xbo {b o:Nat}:pN q ks vs (.ptr b o) = .ptr b o:=rfl
@[go_sem] theorem Xfz {b o n s:Nat}:pN q ks vs (.os b o n s) = .os b o n s:=rfl
@[go_sem] theorem Yy2:pN q ks vs .undef = .undef:=rfl
@[go_sem] theorem Xao {b:Bool}:pN q ks vs (.bool b) = .bool b:=rfl
@[go_sem] theorem Xbk {k:IntKind} {n:Int}:pN q ks vs (.int k n) = .int k n:=rfl
@[go_sem] theorem Xh0 {s:Nat} {l:List ae}:pN q ks vs (.ps s l) = .ps s l:=rfl
@[go_sem] theorem Xaq:pN q ks vs .aU = .aU:=rfl
@[go_sem] theorem Xbw {l:List ae}:pN q ks vs (.agg l) = .agg l:=rfl
@[go_sem] theorem Xb9 {l:List ae}:pN q ks vs (.dA l) = .dA l:=rfl
@[go_sem] theorem Xbq:pN q ks vs (.map q) = .pm ks vs:=if_pos rfl
@[go_sem] theorem Xg1 {g:FuncId} {a c:List ae}:pN q ks vs (.fn g a c) = .fn g a c:=rfl
end
theorem aq.mw {P:Program} {F:Frame→List Frame→Sem Next→World→Value→World→Prop} {f f':ae} {args args':List ae} {K K':ae→ai→Prop} {Z σ:ai} (ι:Nat→Nat) (tJ:∀ b b',b<Z.length→b'<Z.length→ι b = ι b'→b=b') (hb:∀ b,b<Z.length→ι b < σ.length)
  (vT:∀ b,b<Z.length→∃ o,Z[b]? = some o∧σ[ι b]? = some (o.map (dI ι))) (hf:f.low Z.length) (od:dL ι f=f') (ha:bz Z.length args) (ha':d_ ι args=args') (hs:bw Z.length Z)
  (h:dv P F f args Z K') (hk:∀ r Z',K' r Z'→Z.length≤Z'.length∧bw Z'.length Z'∧r.low Z'.length∧K (dL (nj ι Z.length σ.length) r) (jX ι Z.length Z' σ)):dv P F f' args' σ K:=by
 have:=aq.xZ (K:=K) ι tJ hb vT hf ha hs (h.mono hk)
 rwa [od,ha'] at this
section
variable {P:Program} {lo:Ctx} {Q:cb→St→Prop} {tm:List ae} {σ:ai} {q b:Nat} {ks vs cs:List ae} {fz:Bool} {X:Nat→Nat→Prop} {base:Nat} {β:Env} {w:World}
theorem cH.DV (hr:cH X base σ β w) {b:Nat} {x y:bE} (hb:bH σ b=some x) (hm:∀ L o,y.mut L o↔x.mut L o) (ju:∀ L,β b=some L→gp w (MT X σ β) β L x→gp w (MT X σ β) β L y):cH X base (b_ σ b y) β w:=by
 have nn:=j_ hb
 have bG:b < σ.length:=(aI.1 nn).1
 have il:b_ σ b y = σ.set b (some y):=by unfold b_;rw [if_pos bG]
 have hM:MT X (b_ σ b y) β=MT X σ β:=funext fun g=>funext fun o=>propext (by unfold MT;rw [z6 hb hm])
 have eL:∀ c z,(b_ σ b y)[c]? = some (some z)→(c=b∧z=y)∨σ[c]? = some (some z):=fun c z h=>by
  rw [il,dX] at h
  split at h
  ·rename_i e;subst e;cases h;exact .inl ⟨rfl,rfl⟩
  ·exact .inr h
 have uE:∀ c z,(b_ σ b y)[c]? = some (some z)→∃ z',σ[c]? = some (some z'):=fun c z h=>by
  rcases eL c z h with ⟨rfl,rfl⟩ | h
  ·exact ⟨x,nn⟩
  ·exact ⟨z,h⟩
 refine ⟨fun c hc=>hr.nO c (by rw [D9 hb] at hc;exact hc),fun c z hc=>?_,fun c c' z z' L L' h1 h2 h3 h4 h5=>?_,hr.size,hr.qd,hr.gl⟩
 ·rw [hM]
  rcases eL c z hc with ⟨rfl,rfl⟩ | h
  ·obtain ⟨L,q1,q2,q3,q4⟩:=hr.cg c x nn
   exact ⟨L,q1,q2,q3,ju L q1 q4⟩
  ·exact hr.cg c z h
 ·obtain ⟨u,hu⟩:=uE c z h1
  obtain ⟨u',u0⟩:=uE c' z' h2
  exact hr.inj c c' u u' L L' hu u0 h3 h4 h5
theorem Yj1 {mb:Nat} {D:List Deferred} {a:Act} (hq:bH σ q=some (.map ks vs fz)) (hb:bH σ b=some (.var cs)) (ep:b≠q) (h3:Rel X base mb D ⟨tm,σ⟩ β a w) :
  Rel X base mb D ⟨tm.map (pN q ks vs),b_ (σ.set q none) b (.var (cs.map (pN q ks vs)))⟩ β a w:=by
 have h1:=OL hq h3
 have qS:bH (σ.set q none) b=some (.var cs):=by rw [bH,bM (fun e=>ep e.symm)];exact hb
 have hm:∀ L o,(bE.var (cs.map (pN q ks vs))).mut L o↔(bE.var cs).mut L o:=fun L o=>by simp [bE.mut]
 have hM:MT X (b_ (σ.set q none) b (.var (cs.map (pN q ks vs)))) β=MT X (σ.set q none) β:=funext fun g=>funext fun o=>propext (by unfold MT;rw [z6 qS hm])
 refine ⟨cH.DV h1.s qS hm fun L hL ju=>?_,h1.n,fun k hk=>by rw [hM];exact h1.t k hk,h1.d⟩
 obtain ⟨c,e,k1,k2,k3,k4⟩:=ju
 refine ⟨c,e,k1,k2,by simpa using k3,fun k hk=>?_⟩
 simp only [ak] at hk
 have k5:=k4 k hk
 have hg:(cs.map (pN q ks vs)).getD k .undef=pN q ks vs (cs.getD k .undef):=by simp [List.getD,hk]
 rw [hg]
 generalize cs.getD k .undef=x at k5
 generalize c.getD k undef=vv at k5
 cases x with
 | map c' =>
  refine Ml h3.s (j_ hq) ?_
  cases k5 with
  | map hh=>exact .map hh
 | _=>exact k5
theorem Ymj {n:Nat} {β':Env} {w':World} {σ':ai} (hb:bH σ b=some (.var cs)) (ep:b≠q) (g3:Ext n (b_ (σ.set q none) b (.var (cs.map (pN q ks vs)))) β w σ' β' w'):Ext n σ β w σ' β' w':=by
 have qS:bH (σ.set q none) b=some (.var cs):=by rw [bH,bM (fun e=>ep e.symm)];exact hb
 exact OW (Ext.uK qS (fun L o=>by simp [bE.mut]) g3)
theorem aK.Gi {all:Array Oper} {l:List Oper} {k:List KI} (hq:bH σ q=some (.map ks vs fz)) (hb:bH σ b=some (.var cs)) (ep:b≠q)
  (he:aK P lo Q (.ops all l :: k) .normal ⟨tm.map (pN q ks vs),b_ (σ.set q none) b (.var (cs.map (pN q ks vs)))⟩):aK P lo Q (.ops all l :: k) .normal ⟨tm,σ⟩:=by
 have qS:bH (σ.set q none) b=some (.var cs):=by rw [bH,bM (fun e=>ep e.symm)];exact hb
 simp only [aK] at he ⊢
 refine fun hs=>?_
 intro X base mb D β a w b k cs h1 h2 h3
 obtain ⟨e1,kp,eX,a1,w1,q,g1,g2,g3,g4⟩:=(he hs) X base mb D β a w b k cs (by simp only;rw [D9 qS];simpa using h1) h2 (Yj1 hq hb ep h3)
 exact ⟨e1,kp,eX,a1,w1,q,g1,g2,Ymj hb ep g3,g4⟩
end
end Go.c8
namespace Go.Proofs
open Go Go.c8
attribute [local go_sem] Nat.reduceAdd Nat.reduceSub Nat.reduceMul Nat.reduceLeDiff Nat.reduceEqDiff Nat.reduceBEq Nat.reduceLT Nat.le_refl Int.natCast_zero Nat.sub_zero List.length_map Int.toNat_natCast Int.natCast_one Int.reduceEq Int.reduceLT Int.reduceLE Int.reduceNe Int.sub_zero Int.zero_add Int.toNat_one
def iM (l:List Tm):Bool:=l.any fun t=>!decide (t.check=0)
theorem Yc (t:Tm) (ht:t.size<99999999) (σ:ai) (hs:bw σ.length σ):aq Tryz.prog (.fn 145 [] []) [t.aO] σ (fun r σ'=>r = .bool (!decide (t.check=0))∧σ' = σ):=by
 have h:aJ Tryz.prog 145 [t.aO] (.bool (!decide (t.check=0))):=by
  refine aJ.begin (rs:=[.tmp 2]) (m:=5) 1000 Tryz.func145 rfl rfl rfl (by decide) trivial ?_
  have rN:=Cm t (by omega)
  simp only [go_sem,fJ]
  refine aq.bV [] (rN) (by (try simp only [dh]);exact cJ _ _ _) (by simp [go_sem,dH,bR]) ?_;simp only [bP,bY,bX,if_true];refine aK.go 1000 ?_
  by_cases h:t.check=0
  ·simp only [go_sem,h]
  ·simp only [go_sem,h]
 refine aq.bV [] h (cJ _ _ _) (by simp [go_sem,dH]) ?_
 rw [jj];simp only [ite_self]
 exact ⟨trivial,trivial⟩
theorem K4 (l:List Tm) (hl:l.length<99999999) (ht:∀ t∈l,t.size<99999999):aJ Tryz.prog 112 [.ps 2 (l.map Tm.aO)] (.bool (iM l)):=by
 refine aJ.begin (rs:=[.tmp 2]) (m:=4) 1000 Tryz.func112 rfl rfl rfl (by decide) trivial ?_
 simp only [go_sem]
 refine (J_ [] (.fn 145 [] []) (fun t=>!decide (t.check=0)) l (by omega) trivial ⟨trivial,trivial⟩ (fun i h=>Yc _ (ht _ (aE h)) [] trivial)).mono ?_
 rintro r σ' ⟨rfl,rfl⟩
 refine aK.go 1000 ?_
 simp only [go_sem,iM]
def y8 (s:List (Tm×Tm)):Prop:=∀ x∈s,x.1.fit∧x.2.fit∧x.2.size<99999999
def B6 (m:List Bd):Prop:=∀ b∈m,0≤b.v∧b.v≤9223372036854775807∧b.t.fit∧b.t.size<99999999
theorem Z5 {x:Tm×Tm} {r:List (Tm×Tm)} (h:y8 (x :: r)):y8 ((x.1.args.zip x.2.args).reverse++r):=by
 intro y hy
 obtain ⟨h1,h2,h3⟩:=h x (by simp)
 rcases aW.1 hy with hy | hy
 ·have hy:=cU.1 hy
  have a1:=tA (cZ hy).2
  have a2:=oM x.2
  exact ⟨wT (xw h1) _ (cZ hy).1,wT (xw h2) _ (cZ hy).2,by omega⟩
 ·exact h y (by simp [hy])
theorem Qd:∀ (s:List (Tm×Tm)) (m m':List Bd),fD s m=some m'→y8 s→B6 m→(m.map Bd.v).Nodup→B6 m'∧(m'.map Bd.v).Nodup∧m'.length≤m.length+lK s:=by
 intro s m
 induction s,m using fD.induct with
 | case1 m =>
  intro m' h h1 h2 h3
  rw [fD] at h
  cases h
  exact ⟨h2,h3,by simp [lK]⟩
 | case2 x r m hv c hf he ih =>
  intro m' h h1 h2 h3
  rw [fD,if_pos hv,hf] at h
  simp only [if_pos he] at h
  obtain ⟨a1,a2,a3⟩:=ih m' h (fun y hy=>h1 y (by simp [hy])) h2 h3
  exact ⟨a1,a2,by simp only [lK];omega⟩
 | case3 x r m hv c hf he =>
  intro m' h
  rw [fD,if_pos hv,hf] at h
  simp only [if_neg he] at h
  cases h
 | case4 x r m hv hf ih =>
  intro m' h h1 h2 h3
  rw [fD,if_pos hv,hf] at h
  simp only at h
  obtain ⟨b1,b2,b3⟩:=h1 x (by simp)
  have EH:=Fy b1
  unfold ov at EH
  have hp:=z8 x.1
  obtain ⟨a1,a2,a3⟩:=ih m' h (fun y hy=>h1 y (by simp [hy])) (fun b hb=>by
   rcases aW.1 hb with hb | hb
   ·exact h2 b hb
   ·rw [aM.1 hb];exact ⟨hv,by simp only;omega,b2,b3⟩) (by
   rw [cD,gO]
   refine ⟨h3,by simp,fun u hu w hw=>?_⟩
   simp only [aB,aP,aM] at hw
   subst hw
   obtain ⟨b,hb,rfl⟩:=bZ.1 hu
   intro e
   exact absurd (by simpa using e) (kn.1 hf b hb))
  refine ⟨a1,a2,?_⟩
  simp only [lK,ay,ax,aS] at a3 ⊢;omega
 | case5 x r m hv hc =>
  intro m' h
  rw [fD,if_neg hv,if_pos hc] at h
  cases h
 | case6 x r m hv hc ih =>
  intro m' h h1 h2 h3
  rw [fD,if_neg hv,if_neg hc] at h
  obtain ⟨a1,a2,a3⟩:=ih m' h (Z5 h1) h2 h3
  have:=FD x.1 x.2 r
  exact ⟨a1,a2,by simp only [lK];omega⟩
theorem Yio {a b:List Tm} (BL:Tm.fits a) (zx:Tm.fits b) (tH:Tm.bF b<99999999):y8 (a.zip b).reverse:=fun x hx=>by
 have hx:=cU.1 hx
 have:=tA (cZ hx).2
 exact ⟨wT BL _ (cZ hx).1,wT zx _ (cZ hx).2,by omega⟩
theorem Yjz (σ:ai) (b sz:Nat) (l:List ae):nx .slice σ (jo b sz l)=some l.length:=by
 cases l<;>rfl
theorem Zu1 (bs:List Bd) (v:Int) (z:ae):eT (fF bs) (gf bs) z (.int .i64 v) false=match bs.find? (fun b=>b.v==v) with | some b=>b.t.aO | none=>z:=by
 have h:=Fm v bs 0
 unfold eT
 cases hk:fe (.int .i64 v) (fF bs) 0 with
 | some i =>
  rw [hk] at h
  obtain ⟨_,b,h2,h3⟩:=h
  rw [h3]
  simp only [a_,if_false,gf,List.getD,cf]
  rw [gR] at h2
  rw [h2];rfl
 | none =>
  rw [hk] at h
  rw [show bs.find? (fun b=>b.v==v)=none from h];rfl
def jg (m:List Bd) (ks:List Int):List Bd:=ks.filterMap fun v=>match m.find? (fun c=>c.v==v) with | some c=>if c.t.head = -1 - v then none else some ⟨v,c.t⟩ | none=>none
def gS (a b:List Tm):List Bd×Bool×Int :=
 if a.length≠b.length∨iM a=true∨iM b=true then ([],false,1) else
  match fD (a.zip b).reverse [] with
  | none=>([],false,0)
  | some m=>(jg m (gx (m.map Bd.v)),true,0)
theorem Yju (kv:List Int) (vs:List ae) (mB:bz 0 vs) (σ:ai) (hs:bw σ.length σ):aq Tryz.prog (.fn 210 [] []) [.pm (ints kv) vs] σ
  (fun r σ'=>r = .fn 226 [] [.ptr σ.length 0]∧σ' = σ++[some (.var [.pm (ints kv) vs])]):=by
 refine aq.begin (rs:=[.tmp 2]) (m:=3) 1000 Tryz.func210 rfl rfl rfl rfl rfl ?_
 simp only [go_sem]
 rw [Bu,fY]
 exact ⟨_,fN _,by simp,py (nL (by simp) hs) ⟨⟨⟨dB _,iC (av _) mB⟩,trivial⟩,trivial⟩,by simp [go_sem],rfl,rfl⟩
theorem SD (m:List Bd):fF m=ints (m.map Bd.v):=by simp [fF,ints]
theorem Yry (a b:List Tm) (ep:a≠[]) (hs:Tm.bF a<99999999) (tH:Tm.bF b<99999999) (BL:Tm.fits a) (zx:Tm.fits b) :
  aJ Tryz.prog 188 [.ps 2 (a.map Tm.aO), .ps 2 (b.map Tm.aO)] (.dA [.ps 3 (n8 (gS a b).1), .bool (gS a b).2.1, .int .i64 (gS a b).2.2]):=by
 refine aJ.begin (rs:=[.tmp 4, .tmp 5, .tmp 6]) (m:=53) 1000 Tryz.func188 rfl rfl rfl (by decide) (by simp [go_sem]) ?_
 have mz:=qh a
 have wu:=qh b
 have hwa:=K4 a (by omega) (fun t ht=>by have:=tA ht;omega)
 have WW:=K4 b (by omega) (fun t ht=>by have:=tA ht;omega)
 by_cases h1:a.length=b.length
 ·have nP:(a.length:Int)=b.length:=by omega
  simp only [go_sem,ak,nP]
  refine aq.bV [] (hwa) (cJ _ _ _) (by simp [go_sem,bR]) ?_;simp only [bP,bY,bX,if_true];refine aK.go 1000 ?_
  cases h2:iM a with
  | true =>
   have hm:gS a b=([],false,1):=by unfold gS;rw [if_pos (.inr (.inl h2))]
   rw [hm]
   simp only [go_sem,show n8 []=[] from rfl]
  | false =>
   simp only [go_sem]
   refine aq.bV [] (WW) (cJ _ _ _) (by simp [go_sem,bR]) ?_;simp only [bP,bY,bX,if_true];refine aK.go 1000 ?_
   cases h3:iM b with
   | true =>
    have hm:gS a b=([],false,1):=by unfold gS;rw [if_pos (.inr (.inr h3))]
    rw [hm]
    simp only [go_sem,show n8 []=[] from rfl]
   | false =>
    have hm:gS a b=match fD (a.zip b).reverse [] with | none=>([],false,0) | some m=>(jg m (gx (m.map Bd.v)),true,0):=by
     unfold gS;rw [if_neg (by simp [h1,h2,h3])]
    rw [hm]
    simp only [go_sem]
    refine (ZI _ a b rfl ep h1 hs tH BL zx).mono ?_
    cases hg:fD (a.zip b).reverse [] with
    | none =>
     intro r σ' hr
     obtain rfl:r = .bool false:=hr
     refine aK.go 1000 ?_
     simp only [go_sem,show n8 []=[] from rfl]
    | some m =>
     rintro r σ' ⟨rfl,rfl⟩
     refine aK.Az (q:=0) (ks:=fF m) (vs:=gf m) (fz:=false) rfl ?_
     refine aK.go 1000 ?_
     simp only [go_sem,aB,aP]
     rw [SD]
     refine (Yju _ _ (iO m).2 [none] ⟨trivial,trivial⟩).mono ?_
     rintro r σ' ⟨rfl,rfl⟩
     refine aK.go 1000 ?_
     simp only [go_sem]
     obtain ⟨ju,pg,G5⟩:=Qd _ _ _ hg (Yio BL zx tH) (fun b hb=>by cases hb) (by simp)
     have hzl:=Jd a b
     rw [I6,aS] at G5
     have hml:(m.map Bd.v).length<100000000:=by rw [ak];omega
     have Dq:∀ v∈gx (m.map Bd.v), ∃ c,m.find? (fun c=>c.v==v)=some c∧c.v=v∧c∈m:=fun v hv=>by
      have hv:=(jU _ _).mem_iff.1 hv
      obtain ⟨c,hc,rfl⟩:=bZ.1 hv
      cases hf:m.find? (fun d=>d.v==c.v) with
      | none=>exact absurd (by simp) (kn.1 hf c hc)
      | some d=>exact ⟨d,rfl,by simpa using gL hf,bJ hf⟩
     have hso:=YM (m.map Bd.v) (gf m) (iO m).2 hml
     generalize hkv:m.map Bd.v=kv at *
     refine aq.xZ (f:=.fn 209 [] []) (args:=[.fn 226 [] [.ptr 0 0]]) (Z:=[some (.var [.pm (ints kv) (gf m)])]) (fun b=>b+1) (fun b b' h1 h2 e=>by omega) (fun b hb=>by simp at hb;subst hb;simp) (fun b hb=>?_) ⟨trivial,trivial⟩ ⟨⟨trivial,⟨Nat.zero_lt_succ 0,trivial⟩⟩,trivial⟩ ⟨⟨⟨dB _,(iO m).2⟩,trivial⟩,trivial⟩ (hso.mono ?_)
     ·simp at hb;subst hb
      refine ⟨_,rfl,?_⟩
      simp [dI,d_,dL,cI (dB _),cI (iO m).2]
     rintro r σ' ⟨rfl,rfl⟩
     refine ⟨by simp,⟨⟨⟨dB _,iC (av _) (iO m).2⟩,trivial⟩,trivial,trivial,Aa _ (dB _),trivial⟩,Bz (show 3<4 by decide) 1 _,?_⟩
     simp only [go_sem,jX,fv,nj,aB,aP]
     rw [cI (dB _),cI (iO m).2]
     have yF:Option.map (dI (nj (fun b=>b+1) 1 2)) (e9 (ints (gx kv)))=e9 (ints (gx kv)):=by
      cases hq:ints (gx kv) with
      | nil=>rfl
      | cons x l =>
       have xa:bz 0 (ints (gx kv)):=dB _
       rw [U5,bu,xv,← hq,cI xa]
     rw [yF]
     refine aK.go 1000 ?_
     simp only [go_sem,Yjz,lF]
     obtain ⟨K,hK⟩:∃ K,gx kv=K:=⟨_,rfl⟩
     have hKl:K.length=kv.length:=by rw [← hK,Eh]
     rw [hK] at Dq ⊢
     refine aK.im (ι:={q:Nat×List Bd // q.1≤K.length∧q.2++jg m (K.drop q.1)=jg m K∧q.2.length≤q.1}) 1000
      (fun q=>f_ 55 [(4, .aU),(5, .bool false),(6, .int .i64 0),(7, .pm (ints kv) (gf m)),(8,jo 5 3 (n8 q.1.2)),(32,jo 4 1 (ints K)),(33, .int .i64 K.length),(34, .int .i64 q.1.1)])
      (fun q=>[none,none,none,none,e9 (ints K),e9 (n8 q.1.2)]) (fun q=>K.length - q.1.1) ⟨(0,[]),by simp⟩ [] ?_ (fun _=>av _) ?_
     ·refine jb rfl ?_
      simp only [go_sem,show n8 []=[] from rfl,uW,tY,(iO m).2,iC (av 6) (iO m).2,dB,cI (iO m).2,cI (dB _)]
     ·rintro ⟨⟨i,L⟩,hi,aQ,AE⟩
      simp only at hi aQ AE
      by_cases bG:(i:Int)<K.length
      ·have aZ:i<K.length:=by omega
       have hw:IntKind.i64.wrap ((i:Int)+1)=((i+1:Nat):Int):=by rw [eC (by omega)];omega
       have AV:ints K≠[]:=by intro e;have:=congrArg List.length e;rw [lF] at this;simp at this;rw [this] at aZ;simp at aZ
       have GK:=xy aZ
       obtain ⟨c,rM,lq,AH⟩:=Dq _ (aE aZ)
       rw [ao aZ] at aQ
       obtain ⟨v,hv⟩:∃ v,K[i]=v:=⟨_,rfl⟩
       rw [hv] at GK rM lq aQ
       obtain ⟨o1,o2,o3,o4⟩:=ju c AH
       have tI:IntKind.i64.wrap (-1 - v) = -1 - v:=eC (by omega)
       have pc:=Zu1 m v (.agg [.int .i64 0, .aU])
       rw [rM] at pc
       simp only at pc
       have ta:=zj m v
       rw [SD,hkv] at pc ta
       by_cases qX:c.t.head = -1 - v
       ·have N5:jg m (v :: K.drop (i+1))=jg m (K.drop (i+1)):=by simp [jg,rM,qX]
        rw [N5] at aQ
        simp only [go_sem,bG,CF AV,BA AV,lF,GK,ta,pc,dh,tI,qX,hw]
        refine ⟨by omega,aZ,⟨(i+1,L),by simp only;omega,aQ,by simp only;omega⟩,[],jb rfl ?_,by simp only;omega⟩
        simp only [go_sem,(iO m).2,iC (av 6) (iO m).2,dB,cI (iO m).2,cI (dB _),Ev,Il (of_eq_true (Ev L))]
       ·have N5:jg m (v :: K.drop (i+1))=⟨v,c.t⟩ :: jg m (K.drop (i+1)):=by simp [jg,rM,qX]
        rw [N5] at aQ
        simp only [go_sem,bG,CF AV,BA AV,lF,GK,ta,pc,dh,tI,qX,hw]
        have h5:bH [none,none,none,none,some (bE.row (ints K) 0),e9 (n8 L),some (bE.row [.agg [.int .i64 v, .int .i64 c.t.head, .ps 2 (c.t.args.map Tm.aO)]] 0)] 5=e9 (n8 L):=rfl
        have nR:eQ ⟨3,true,40,[.int .i64 0, .int .i64 0, .aU], .struct⟩ [.agg [.int .i64 v, .int .i64 c.t.head, .ps 2 (c.t.args.map Tm.aO)]]:=⟨fun y hy=>by rw [aM.1 hy];exact ⟨rfl,rfl⟩,by decide,by decide,rfl⟩
        refine ⟨by omega,aZ,?_⟩
        simp only [go_sem,vl h5,nR,Bw,hw]
        refine ⟨by omega,⟨(i+1,L++[⟨v,c.t⟩]),by simp only;omega,by rw [← aQ,cx];rfl,by simp only [ay,ax,aS];omega⟩,[(5,7),(7,5)],jb rfl ?_,by simp only;omega⟩
        dsimp only
        have hba:n8 (L++[⟨v,c.t⟩])=n8 L++[.agg [.int .i64 v, .int .i64 c.t.head, .ps 2 (c.t.args.map Tm.aO)]]:=by simp [n8,Bd.aO]
        have lw:bz 0 (n8 (L++[⟨v,c.t⟩])):=of_eq_true (Ev _)
        rw [hba] at lw ⊢
        rw [Fz,FL]
        simp only [go_sem,(iO m).2,iC (av 6) (iO m).2,dB,cI (iO m).2,cI (dB _),cI lw,iC (av 6) lw,Bw]
      ·have dV:i=K.length:=by omega
       subst dV
       rw [aV] at aQ
       simp only [go_sem,bG]
       refine aK.go 1000 ?_
       simp only [go_sem]
       rw [← aQ,show jg m []=[] from rfl,bq]
       rw [sn rfl rfl];trivial
 ·have nP:¬ (a.length:Int)=b.length:=by omega
  have hm:gS a b=([],false,1):=by unfold gS;rw [if_pos (.inl h1)]
  rw [hm]
  simp only [go_sem,ak,nP,show n8 []=[] from rfl]
theorem ZQ (a b:Tm) (ha:a.size<99999999) (hb:b.size<99999999) (BL:a.fit) (zx:b.fit) :
  aJ Tryz.prog 169 [a.aO,b.aO] (.dA [.ps 3 (n8 (gS [a] [b]).1), .bool (gS [a] [b]).2.1, .int .i64 (gS [a] [b]).2.2]):=by
 refine aJ.begin (rs:=[.tmp 4, .tmp 5, .tmp 6]) (m:=13) 1000 Tryz.func169 rfl rfl rfl (by decide) (by simp [go_sem]) ?_
 have e8:=Yry [a] [b] (by simp) (by simpa [Tm.bF] using ha) (by simpa [Tm.bF] using hb) ⟨BL,trivial⟩ ⟨zx,trivial⟩
 generalize gS [a] [b]=z at *
 simp only [go_sem,fJ]
 refine aq.bV [2,3] e8 ?_ (by simp [go_sem,dH]) ?_
 ·simp only [go_sem,dh,aB,aP]
 generalize bP _=fl
 cases fl
 ·simp only [a_,if_false]
  refine aK.go 1000 ?_
  simp only [go_sem]
 ·simp only [if_true]
  refine aK.go 1000 ?_
  simp only [go_sem]
structure ln where
 i:Int
 rt:Bool
 p:List Int
 t:Tm
def ln.aO (s:ln):ae:=.agg [.int .i64 s.i, .bool s.rt, .ps 1 (ints s.p), .int .i64 s.t.head, .ps 2 (s.t.args.map Tm.aO)]
theorem KW (s:ln):s.aO.cells=[.int .i64 s.i, .bool s.rt, .ps 1 (ints s.p), .int .i64 s.t.head, .ps 2 (s.t.args.map Tm.aO)]:=rfl
theorem Ytw {n:Nat} (s:ln):s.aO.low n:=⟨trivial,trivial,dB _,trivial,bR _,trivial⟩
def Li.side (l:Li) (rt:Bool):Tm:=if rt then l.r else l.l
def Li.qt (l:Li) (rt:Bool) (u:Tm):Li:=if rt then ⟨l.neg,l.l,u⟩ else ⟨l.neg,u,l.r⟩
def kl (c:List Li) (s:ln) (u:Tm):List Li:=match c[s.i.toNat]? with
 | some l=>c.set s.i.toNat (l.qt s.rt ((l.side s.rt).gX s.p u))
 | none=>c
theorem Ypl (c:List Li) (s:ln) (u v:Tm) (i:Nat) (h:i<c.length) (hi:s.i=i) (hv:(c[i].side s.rt).mo s.p=some v) (hl:c.length≤1000000) (hp:s.p.length≤1000000) (hs:(c[i].side s.rt).size≤1000000) :
  aJ Tryz.prog 142 [.ps 5 (lits c),s.aO,u.aO] (.ps 5 (lits (kl c s u))):=by
 refine aJ.begin (rs:=[.tmp 6]) (m:=43) 1000 Tryz.func142 rfl rfl rfl (by decide) (cz _) ?_
 have ep:c≠[]:=by intro e;subst e;simp at h
 have k_:=Yri (c[i].side s.rt) s.p u v hp hs hv
 have kZ:=tV h
 have hpc:kl c s u=c.set i (c[i].qt s.rt ((c[i].side s.rt).gX s.p u)):=by
  unfold kl
  rw [hi,cd,aA h]
 rw [hpc]
 generalize c[i]=l at *
 simp only [go_sem,KW,fJ]
 refine aq.td [] (HV c ep (by omega)) (cJ _ _ _) (by simp [go_sem,cz]) ?_
 rw [jj]
 simp only [Af,Ah,Ak,xv,Am,up,cI (cz _)]
 refine aK.go 1000 ?_
 cases hr:s.rt with
 | true =>
  rw [hr] at k_
  simp only [go_sem,hi,gj,kZ,kL]
  refine ⟨⟨by omega,by omega⟩,?_⟩
  refine aK.draw [.no, .no, .no, .no, .no, .no, .no, .no, .no, .no, .no,⟨none,[],[3]⟩, .no, .no,⟨none,[3],[]⟩] 4 4 mixed rfl rfl (by decide) ?_
  simp only [go_sem,dC,kZ,kL,gj,h]
  refine n5 k_ (by simp only [Li.side,dh,if_true,a_,if_false];exact cJ _ _ _) (by simp [go_sem,dH,dB]) ?_
  generalize hy:(l.side true).gX s.p u=y at *
  simp only [go_sem,fJ,kZ,kL,gj,h]
  have he:(lits c).set i (jx (cN l.aO) [.bool l.neg, .int .i64 l.l.head, .ps 2 (l.l.args.map Tm.aO), .int .i64 y.head, .ps 2 (y.args.map Tm.aO)])=lits (c.set i (l.qt true y)):=by
   rw [show jx (cN l.aO) [.bool l.neg, .int .i64 l.l.head, .ps 2 (l.l.args.map Tm.aO), .int .i64 y.head, .ps 2 (y.args.map Tm.aO)]=(l.qt true y).aO from rfl]
   simp [lits,pA]
  rw [he]
  refine ⟨by omega,?_⟩
  refine aK.go 1000 ?_
  simp only [go_sem,gj,bg]
  rw [bd (by rw [gj,bg];exact ah _)]
  exact cJ _ _ _
 | false =>
  rw [hr] at k_
  simp only [go_sem,hi,gj,kZ,kL]
  refine ⟨⟨by omega,by omega⟩,?_⟩
  refine aK.draw [.no, .no, .no, .no, .no, .no, .no, .no, .no, .no, .no,⟨none,[],[3]⟩, .no, .no,⟨none,[3],[]⟩] 4 4 mixed rfl rfl (by decide) ?_
  simp only [go_sem,dC,kZ,kL,gj,h]
  refine n5 k_ (by simp only [Li.side,dh,if_true,a_,if_false];exact cJ _ _ _) (by simp [go_sem,dH,dB]) ?_
  generalize hy:(l.side false).gX s.p u=y at *
  simp only [go_sem,fJ,kZ,kL,gj,h]
  have he:(lits c).set i (jx (cN l.aO) [.bool l.neg, .int .i64 y.head, .ps 2 (y.args.map Tm.aO), .int .i64 l.r.head, .ps 2 (l.r.args.map Tm.aO)])=lits (c.set i (l.qt false y)):=by
   rw [show jx (cN l.aO) [.bool l.neg, .int .i64 y.head, .ps 2 (y.args.map Tm.aO), .int .i64 l.r.head, .ps 2 (l.r.args.map Tm.aO)]=(l.qt false y).aO from rfl]
   simp [lits,pA]
  rw [he]
  refine ⟨by omega,?_⟩
  refine aK.go 1000 ?_
  simp only [go_sem,gj,bg]
  rw [bd (by rw [gj,bg];exact ah _)]
  exact cJ _ _ _
def ly:List (Int×Int)→Int→Int→List (Int×Int)
 | [],k,s=>[(k,s)]
 | x :: r,k,s=>if x.1=k then (x.1,x.2+s) :: r else x :: ly r k s
def fP:List (Int×Int)→Int→Int
 | [],_=>0
 | x :: r,k=>if x.1=k then x.2 else fP r k
def kg (l:List (Int×Int)):List ae:=ints (l.map Prod.fst)
def lU (l:List (Int×Int)):List ae:=ints (l.map Prod.snd)
theorem rJ {n:Nat} (l:List (Int×Int)):bz n (kg l)∧bz n (lU l):=⟨dB _,dB _⟩
theorem Z_ (l:List (Int×Int)) (v:Int):(kg l).all (sameKind (.int .i64 v))=true:=by simp [kg,ints,sameKind]
theorem Ik (x:Int×Int) (r:List (Int×Int)):kg (x :: r) = .int .i64 x.1 :: kg r:=rfl
theorem Im (x:Int×Int) (r:List (Int×Int)):lU (x :: r) = .int .i64 x.2 :: lU r:=rfl
theorem KB (k:Int):∀ (l:List (Int×Int)) (n:Nat),(match fe (.int .i64 k) (kg l) n with
  | some i=>n≤i∧(lU l).getD (i - n) .undef = .int .i64 (fP l k)∧∀ s,((kg l)=kg (ly l k s)∧(lU l).set (i - n) (.int .i64 (fP l k+s))=lU (ly l k s))
  | none=>fP l k=0∧∀ s,kg l++[.int .i64 k]=kg (ly l k s)∧lU l++[.int .i64 s]=lU (ly l k s))
 | [],n=>⟨rfl,fun s=>⟨rfl,rfl⟩⟩
 | x :: r,n=>by
  have ih:=KB k r (n+1)
  rw [Ik,Im]
  simp only [fe,fP,ly]
  by_cases c:x.1=k
  ·have hc:fq (.int .i64 k) (.int .i64 x.1)=true:=by simp [fq,c]
   rw [hc,if_pos rfl]
   simp only [if_pos c]
   refine ⟨ah _,?_,fun s=>?_⟩
   ·simp [List.getD]
   ·rw [en,Ik,Im];exact ⟨rfl,rfl⟩
  ·have hc:fq (.int .i64 k) (.int .i64 x.1)=false:=by simp only [fq,beq_eq_false_iff_ne];exact fun e=>c e.symm
   rw [hc]
   simp only [a_,if_false,if_neg c]
   split at ih
   ·rename_i i _
    obtain ⟨h1,h2,h3⟩:=ih
    have hi:i - n=(i - (n+1))+1:=by omega
    refine ⟨by omega,?_,fun s=>?_⟩
    ·rw [hi,bC];exact h2
    ·obtain ⟨q1,q2⟩:=h3 s
     rw [hi,cW,Ik,Im,← q1,← q2];exact ⟨rfl,rfl⟩
   ·obtain ⟨h1,h2⟩:=ih
    refine ⟨h1,fun s=>?_⟩
    obtain ⟨q1,q2⟩:=h2 s
    rw [Ik,Im,← q1,← q2];exact ⟨rfl,rfl⟩
theorem Zud (l:List (Int×Int)) (k:Int):eT (kg l) (lU l) (.int .i64 0) (.int .i64 k) false = .int .i64 (fP l k):=by
 have h:=KB k l 0
 unfold eT
 cases hk:fe (.int .i64 k) (kg l) 0 with
 | some i=>rw [hk] at h;simpa using h.2.1
 | none=>rw [hk] at h;simp only [a_,if_false];rw [h.1]
theorem Zvw (l:List (Int×Int)) (k s:Int):iV (kg l) (lU l) (.int .i64 k) (.int .i64 (fP l k+s))=(kg (ly l k s),lU (ly l k s)):=by
 have h:=KB k l 0
 unfold iV
 cases hk:fe (.int .i64 k) (kg l) 0 with
 | some i=>rw [hk] at h;obtain ⟨q1,q2⟩:=h.2.2 s;simp only;rw [← q1,← q2,gR]
 | none=>rw [hk] at h;obtain ⟨q1,q2⟩:=h.2 s;simp only;rw [h.1,Int.zero_add,q1,q2]
def nE (g:List Sy) (h:Int):Int:=((g[h.toNat]?).map Sy.weight).getD 0
mutual
def r9 (g:List Sy) (s:Int):Tm→Int×List (Int×Int)→Int×List (Int×Int)
 | .mk h ts,x=>if h<0 then (x.1+s,ly x.2 h s) else oK g s ts (x.1+s*nE g h,x.2)
def oK (g:List Sy) (s:Int):List Tm→Int×List (Int×Int)→Int×List (Int×Int)
 | [],x=>x
 | t :: ts,x=>oK g s ts (r9 g s t x)
end
mutual
def Tm.B2 (g:List Sy):Tm→Prop
 | .mk h ts=>h<g.length∧Tm.yP g ts
def Tm.yP (g:List Sy):List Tm→Prop
 | []=>True
 | t :: ts=>t.B2 g∧Tm.yP g ts
end
theorem FK {g:List Sy} {t:Tm} (h:t.B2 g):t.head<g.length:=by cases t;exact h.1
theorem VR {g:List Sy} {t:Tm} (h:t.B2 g):Tm.yP g t.args:=by cases t;exact h.2
theorem LC {g:List Sy}:∀ {ts:List Tm},Tm.yP g ts→∀ t∈ts,t.B2 g
 | x :: ts,h,t,ht=>by
  rcases aR.1 ht with rfl | ht
  ·exact h.1
  ·exact LC h.2 t ht
def qo (B:Int) (x:Int×List (Int×Int)):Prop:=-B≤x.1∧x.1≤B∧∀ y∈x.2, -B≤y.2∧y.2≤B
theorem Ie {B C:Int} {x:Int×List (Int×Int)} (h:qo B x) (hc:B≤C):qo C x:=⟨by have:=h.1;omega,by have:=h.2.1;omega,fun y hy=>⟨by have:=(h.2.2 y hy).1;omega,by have:=(h.2.2 y hy).2;omega⟩⟩
theorem Pd {B s:Int} (h0 : 0≤B) (hs:s=1∨s = -1):∀ (l:List (Int×Int)) (k:Int),(∀ y∈l, -B≤y.2∧y.2≤B)→∀ y∈ly l k s, -(B+1)≤y.2∧y.2≤B+1
 | [],k,_,y,hy=>by rw [aM.1 hy];simp only;omega
 | x :: r,k,h,y,hy=>by
  have hx:=h x (by simp)
  simp only [ly] at hy
  split at hy
  ·rcases aR.1 hy with rfl | hy
   ·simp only;omega
   ·have:=h y (by simp [hy]);omega
  ·rcases aR.1 hy with rfl | hy
   ·omega
   ·exact Pd h0 hs r k (fun z hz=>h z (by simp [hz])) y hy
theorem Vx {B:Int} (h0 : 0≤B):∀ (l:List (Int×Int)) (k:Int),(∀ y∈l, -B≤y.2∧y.2≤B)→-B≤fP l k∧fP l k≤B
 | [],k,_=>by simp only [fP];omega
 | x :: r,k,h=>by
  simp only [fP]
  split
  ·exact h x (by simp)
  ·exact Vx h0 r k fun z hz=>h z (by simp [hz])
def tC (g:List Sy):Prop:=∀ s∈g, -1000000≤s.weight∧s.weight≤1000000
theorem PO {g:List Sy} (hg:tC g) (h:Int) : -1000000≤nE g h∧nE g h≤1000000:=by
 unfold nE
 cases hq:g[h.toNat]? with
 | none=>simp
 | some s=>exact hg s (lY hq)
mutual
theorem Ji {g:List Sy} (hg:tC g) {s:Int} (hs:s=1∨s = -1):∀ (t:Tm) (x:Int×List (Int×Int)) (B:Int),0≤B→qo B x→qo (B+1000000*t.size) (r9 g s t x)
 | .mk h ts,x,B,h0,hx=>by
  rw [r9,Tm.size]
  have hw:=PO hg h
  split
  ·refine Ie (B:=B+1) ⟨?_,?_,Pd h0 hs _ _ hx.2.2⟩ (by omega)
   ·have:=hx.1;simp only;omega
   ·have:=hx.2.1;simp only;omega
  ·have h1:qo (B+1000000) (x.1+s*nE g h,x.2):=by
    refine ⟨?_,?_,fun y hy=>by have:=hx.2.2 y hy;omega⟩
    ·have:=hx.1;rcases hs with rfl | rfl<;>simp only<;>omega
    ·have:=hx.2.1;rcases hs with rfl | rfl<;>simp only<;>omega
   exact Ie (Pg hg hs ts _ _ (by omega) h1) (by omega)
theorem Pg {g:List Sy} (hg:tC g) {s:Int} (hs:s=1∨s = -1):∀ (ts:List Tm) (x:Int×List (Int×Int)) (B:Int),0≤B→qo B x→qo (B+1000000*Tm.bF ts) (oK g s ts x)
 | [],x,B,h0,hx=>by rw [oK];exact Ie hx (by simp [Tm.bF])
 | t :: ts,x,B,h0,hx=>by
  rw [oK,Tm.bF]
  exact Ie (Pg hg hs ts _ _ (by omega) (Ji hg hs t x B h0 hx)) (by omega)
end
def p_ (x:Int×List (Int×Int)):ai:=[some (.map (kg x.2) (lU x.2) false),some (.var [.int .i64 x.1, .map 0])]
theorem Qg (g:List Sy) (hg:tC g) (kZ:g.length<1000000) (s:Int) (hs:s=1∨s = -1):∀ (n:Nat) (t:Tm) (x:Int×List (Int×Int)) (B:Int),t.size≤n→t.size<100000000→t.B2 g→t.fit→0≤B→qo B x→B+1000000*t.size≤1000000000000000 →
  aq Tryz.prog (.fn 212 [] []) [.ptr 1 0, .ps 4 (syms g),t.aO, .int .i64 s] (p_ x) (fun r σ'=>r = .dA []∧σ'=p_ (r9 g s t x))
 | 0,t,_,_,h,_,_,_,_,_,_=>by have:=oM t;omega
 | n+1,t,x,B,hn,fH,fE,hft,h0,hx,hB=>by
  unfold p_
  refine aq.begin (rs:=[]) (m:=54) 1000 Tryz.func212 rfl rfl rfl rfl rfl ?_
  have AY:=oM t
  have mz:=qh t.args
  obtain ⟨x1,x2,x3⟩:=hx
  have hih:=FK fE
  by_cases ff:t.head<0
  ·have qZ:r9 g s t x=(x.1+s,ly x.2 t.head s):=by cases t;rw [r9];exact if_pos ff
   have r7:IntKind.i64.wrap (x.1+s)=x.1+s:=eC (by rcases hs with rfl | rfl<;>omega)
   have iU:=Vx h0 x.2 t.head x3
   have r8:IntKind.i64.wrap (fP x.2 t.head+s)=fP x.2 t.head+s:=eC (by rcases hs with rfl | rfl<;>omega)
   rw [qZ]
   simp only [go_sem,fJ,ff,r7]
   refine aK.draw [.no, .no, .no, .no, .no, .no, .no, .no, .no,⟨none,[0],[]⟩] 3 3 mixed rfl rfl (by decide) ?_
   simp only [go_sem,dC,Z_,Zud,r8,Zvw]
   refine aK.go 1000 ?_
   simp only [go_sem]
   rw [fY]
   exact ⟨p_ (x.1+s,ly x.2 t.head s),by simp [p_,go_sem],by simp [p_],by simp [p_,go_sem,rJ],trivial,rfl,rfl⟩
  ·simp only [go_sem,fJ,ff]
   have Wz:t.head.toNat<g.length:=by omega
   have Db:=xx Wz
   have wB:nE g t.head=(g[t.head.toNat]).weight:=by simp [nE,Wz]
   have WW:=PO hg t.head
   have qZ:r9 g s t x=oK g s t.args (x.1+s*nE g t.head,x.2):=by cases t;rw [r9];exact if_neg ff
   have r7:IntKind.i64.wrap (s*nE g t.head)=s*nE g t.head:=eC (by rcases hs with rfl | rfl<;>omega)
   have r8:IntKind.i64.wrap (x.1+s*nE g t.head)=x.1+s*nE g t.head:=eC (by rcases hs with rfl | rfl<;>omega)
   have NK:qo (B+1000000) (x.1+s*nE g t.head,x.2):=by
    refine ⟨?_,?_,fun y hy=>by have:=x3 y hy;omega⟩
    ·rcases hs with rfl | rfl<;>simp only<;>omega
    ·rcases hs with rfl | rfl<;>simp only<;>omega
   rw [qZ]
   generalize yK:x.1+s*nE g t.head=W6 at *
   refine aK.draw [.no, .no, .no, .no, .no, .no, .no, .no, .no, .no, .no, .no, .no, .no, .no,⟨none,[1],[]⟩] 3 3 mixed rfl rfl (by decide) ?_
   simp only [go_sem,dC,rK,Db,xu,← wB,r7,yK,r8]
   refine ⟨⟨by omega,hih⟩,?_⟩
   refine aK.go 1000 ?_
   simp only [go_sem,ak]
   obtain ⟨F,hF⟩:∃ F,oK g s t.args (W6,x.2)=F:=⟨_,rfl⟩
   rw [hF]
   refine aK.dc (ι:={q:Nat×(Int×List (Int×Int)) // q.1≤t.args.length∧oK g s (t.args.drop q.1) q.2=F∧∃ C,0≤C∧qo C q.2∧C+1000000*Tm.bF (t.args.drop q.1)≤1000000000000000}) 1000
    (fun q=>f_ 58 [(0, .ptr 1 0),(1, .ps 4 (syms g)),(3, .int .i64 s),(46, .ps 2 (t.args.map Tm.aO)),(47, .int .i64 t.args.length),(48, .int .i64 q.1.1)]) (fun q=>p_ q.1.2) (fun q=>t.args.length - q.1.1)
    ⟨(0,(W6,x.2)),by simp only [dn];exact ⟨av _,hF,B+1000000,by omega,NK,by omega⟩⟩ ?_ (fun _=>by simp [p_]) ?_
   ·unfold p_
    simp only [go_sem,dK,bR,rJ]
   ·rintro ⟨⟨i,y⟩,hi,aQ,C,Wa,MF,MH⟩
    simp only at hi aQ MF MH
    by_cases bG:(i:Int)<t.args.length
    ·have aZ:i<t.args.length:=by omega
     have hw:IntKind.i64.wrap ((i:Int)+1)=((i+1:Nat):Int):=by rw [eC (by omega)];omega
     have wv:(t.args.map Tm.aO).getD i .undef=t.args[i].aO:=n6 aZ
     have jM:=aE aZ
     have hui:=LC (VR fE) _ jM
     have huf:=wT (xw hft) _ jM
     have yI:=tA jM
     rw [ao aZ] at aQ MH
     rw [oK] at aQ
     rw [Tm.bF] at MH
     generalize t.args[i]=u at *
     unfold p_
     simp only [go_sem,bG,ak,wv,fJ]
     refine ⟨by omega,?_⟩
     rw [← dh u]
     have hI:∀ b,b<2→b=0∨b=1:=fun b hb=>by omega
     have hL:bz 2 [ae.ptr 1 0, .ps 4 (syms g),u.aO, .int .i64 s]:=⟨cG 1,dK _,dH u,trivial,trivial⟩
     refine aq.mw (Z:=p_ y) (f:=.fn 212 [] []) (args:=[ae.ptr 1 0, .ps 4 (syms g),u.aO, .int .i64 s]) (fun b=>b) (fun b b' h1 h2 e=>e) (fun b hb=>Nat.lt_succ_of_lt hb) (fun b hb=>?_) (by simp [go_sem]) rfl hL (qx _ 2 (fun _ _=>rfl) _ hL) (by simp [p_,go_sem,rJ]) (Qg g hg kZ s hs n u y C (by omega) (by omega) hui huf Wa MF (by omega)) ?_
     ·rcases hI b hb with rfl | rfl
      ·refine ⟨_,rfl,?_⟩
       simp [dI,cI (rJ y.2).1,cI (rJ y.2).2]
      ·exact ⟨_,rfl,rfl⟩
     rintro r Z' ⟨rfl,rfl⟩
     refine ⟨by simp [p_],by simp [p_,go_sem,rJ],trivial,?_⟩
     have MG:=Ji hg hs u y C Wa MF
     generalize r9 g s u y=z at *
     simp only [go_sem,p_,jX,fv,nj,aB,aP,cI (rJ z.2).1,cI (rJ z.2).2]
     refine aK.go 1000 ?_
     simp only [go_sem,hw]
     refine ⟨⟨(i+1,z),by simp only;omega,aQ,C+1000000*u.size,by omega,MG,by simp only;omega⟩,?_,by simp only;omega⟩
     simp only [go_sem,dK,bR,rJ]
    ·have dV:i=t.args.length:=by omega
     subst dV
     rw [aV,oK] at aQ
     subst aQ
     unfold p_
     simp only [go_sem,bG]
     refine aK.go 1000 ?_
     simp only [go_sem]
     rw [fY]
     exact ⟨p_ y,by simp [p_,go_sem],by simp [p_],by simp [p_,go_sem,rJ],trivial,rfl,rfl⟩
def tL (x:Int×List (Int×Int)) (n:Int):Int:=mP n ((x.2.map Prod.snd).any fun n=>decide (0<n)) ((x.2.map Prod.snd).any fun n=>decide (n<0))
def nW (g:List Sy) (t u:Tm):Int×List (Int×Int):=r9 g (-1) u (r9 g 1 t (0,[]))
mutual
def dU (g:List Sy):Tm→Tm→Int
 | .mk h ts,u=>if Tm.mk h ts=u then 0 else
  if (nW g (.mk h ts) u).1≠0 then tL (nW g (.mk h ts) u) (nW g (.mk h ts) u).1 else
  if h<0∨u.head<0 then 2 else if h≠u.head then tL (nW g (.mk h ts) u) (h - u.head) else gH g (nW g (.mk h ts) u) ts u.args
def gH (g:List Sy) (x:Int×List (Int×Int)):List Tm→List Tm→Int
 | [],_=>0
 | _ :: _,[]=>0
 | t :: ts,u :: us=>if dU g t u≠0 then (if dU g t u=2 then 2 else tL x (dU g t u)) else gH g x ts us
end
def Aq (g:List Sy) (h:Int):Int:=((g[h.toNat]?).map Sy.arity).getD 0
mutual
def Tm.CJ (g:List Sy):Tm→Prop
 | .mk h ts=>(0≤h→(ts.length:Int)=Aq g h)∧Tm.xU g ts
def Tm.xU (g:List Sy):List Tm→Prop
 | []=>True
 | t :: ts=>t.CJ g∧Tm.xU g ts
end
theorem Jb {g:List Sy} {t:Tm} (h:t.CJ g) (h0 : 0≤t.head):(t.args.length:Int)=Aq g t.head:=by cases t;exact h.1 h0
theorem Yjf {g:List Sy} {t:Tm} (h:t.CJ g):Tm.xU g t.args:=by cases t;exact h.2
theorem UM {g:List Sy}:∀ {ts:List Tm},Tm.xU g ts→∀ t∈ts,t.CJ g
 | x :: ts,h,t,ht=>by
  rcases aR.1 ht with rfl | ht
  ·exact h.1
  ·exact UM h.2 t ht
def jF (g:List Sy) (t:Tm):Prop:=t.size<100000000∧t.B2 g∧t.CJ g∧t.fit
theorem Lr {g:List Sy} {t u:Tm} (h:jF g t) (hu:u∈t.args):jF g u:=by
 have h1:=tA hu
 have h2:=oM t
 exact ⟨by have:=h.1;omega,LC (VR h.2.1) u hu,UM (Yjf h.2.2.1) u hu,wT (xw h.2.2.2) u hu⟩
theorem QH (g:List Sy) (hg:tC g) (kZ:g.length<1000000) (s:Int) (hs:s=1∨s = -1) (t:Tm) (x:Int×List (Int×Int)) (B:Int) (ht:jF g t) (h0 : 0≤B) (hx:qo B x) (hB:B+1000000*t.size≤1000000000000000) (a0 a1:Option bE) {K:ae→ai→Prop}
  (hK:K (.dA []) [a0,a1,some (.map (kg (r9 g s t x).2) (lU (r9 g s t x).2) false),some (.var [.int .i64 (r9 g s t x).1, .map 2])]) :
  aq Tryz.prog (.fn 212 [] []) [.ptr 3 0, .ps 4 (syms g), .agg [.int .i64 t.head, .ps 2 (t.args.map Tm.aO)], .int .i64 s] [a0,a1,some (.map (kg x.2) (lU x.2) false),some (.var [.int .i64 x.1, .map 2])] K:=by
 have hI:∀ b,b<2→b=0∨b=1:=fun b hb=>by omega
 have hL:bz 2 [ae.ptr 1 0, .ps 4 (syms g),t.aO, .int .i64 s]:=⟨cG 1,dK _,dH t,trivial,trivial⟩
 rw [← dh t]
 refine aq.mw (Z:=p_ x) (f:=.fn 212 [] []) (args:=[ae.ptr 1 0, .ps 4 (syms g),t.aO, .int .i64 s]) (fun b=>b+2) (fun b b' h1 h2 e=>by omega) (fun b hb=>by have:b<2:=hb;simp;omega) (fun b hb=>?_) (by simp [go_sem]) rfl hL ?_ (by simp [p_,go_sem,rJ]) (Qg g hg kZ s hs t.size t x B (ah _) ht.1 ht.2.1 ht.2.2.2 h0 hx hB) ?_
 ·rcases hI b hb with rfl | rfl
  ·refine ⟨_,rfl,?_⟩
   simp [dI,cI (rJ x.2).1,cI (rJ x.2).2]
  ·exact ⟨_,rfl,rfl⟩
 ·simp only [d_,dL,cI (dK _),Ac (Lf t),Nat.reduceAdd]
 rintro r Z' ⟨rfl,rfl⟩
 refine ⟨by simp [p_],by simp [p_,go_sem,rJ],trivial,?_⟩
 generalize r9 g s t x=z at *
 simp only [go_sem,p_,jX,fv,nj,aB,aP,cI (rJ z.2).1,cI (rJ z.2).2]
 exact hK
theorem Lq (g:List Sy) (hg:tC g) (kZ:g.length<1000000):∀ (n:Nat) (t u:Tm),t.size≤n→jF g t→jF g u→aJ Tryz.prog 195 [.ps 4 (syms g),t.aO,u.aO] (.int .i64 (dU g t u))
 | 0,t,_,h,_,_=>by have:=oM t;omega
 | n+1,t,u,hn,ht,hu=>by
  refine aJ.begin (rs:=[.tmp 6]) (m:=82) 1000 Tryz.func195 rfl rfl rfl (by decide) trivial ?_
  have fT:dU g t u=if t=u then 0 else if (nW g t u).1≠0 then tL (nW g t u) (nW g t u).1 else if t.head<0∨u.head<0 then 2 else if t.head≠u.head then tL (nW g t u) (t.head - u.head) else gH g (nW g t u) t.args u.args:=by
   cases t;rw [dU];rfl
  simp only [go_sem,fJ]
  refine aq.bV [] (Ab t u (by have:=ht.1;omega) (by have:=hu.1;omega)) (by (try simp only [dh]);exact cJ _ _ _) (by simp [go_sem,dH,bR]) ?_;simp only [bP,bY,bX,if_true];refine aK.go 1000 ?_
  by_cases he:t=u
  ·rw [fT,if_pos he]
   simp only [go_sem,he]
  ·rw [if_neg he] at fT
   simp only [go_sem,he]
   have WR:=ht.1
   have hu1:=hu.1
   have WZ:qo 0 (0,[]):=⟨by simp,by simp,fun y hy=>by cases hy⟩
   have W0:=Ji hg (.inl rfl) t (0,[]) 0 (by omega) WZ
   refine QH g hg kZ 1 (.inl rfl) t (0,[]) 0 ht (by omega) WZ (by omega) _ _ ?_
   refine aK.go 1000 ?_
   simp only [go_sem]
   refine QH g hg kZ (-1) (.inr rfl) u _ _ hu (by omega) W0 (by omega) _ _ ?_
   have ju:=Ji hg (.inr rfl) u _ _ (by omega) W0
   have rP:∀ n,aJ Tryz.prog 213 [.pp [.int .i64 (nW g t u).1, .pm (kg (nW g t u).2) (lU (nW g t u).2)], .int .i64 n] (.int .i64 (tL (nW g t u) n)):=fun n=>Yq7 _ n _ _ (by simp [kg,ints]) (rJ _).1
   rw [show r9 g (-1) u (r9 g 1 t (0,[]))=nW g t u from rfl] at ju ⊢
   generalize nW g t u=x at *
   refine aK.Gi (q:=2) (b:=3) rfl rfl (by decide) ?_
   refine aK.go 1000 ?_
   have vE:pN 2 (kg x.2) (lU x.2) t.aO=t.aO:=by rw [dh];rfl
   have pb:pN 2 (kg x.2) (lU x.2) u.aO=u.aO:=by rw [dh];rfl
   by_cases h1:x.1=0
   ·rw [if_neg (by simp [h1])] at fT
    rw [h1] at rP
    by_cases c1:t.head<0
    ·rw [if_pos (.inl c1)] at fT
     rw [fT]
     simp only [go_sem,aB,aP,h1,vE,pb,c1]
    ·by_cases c2:u.head<0
     ·rw [if_pos (.inr c2)] at fT
      rw [fT]
      simp only [go_sem,aB,aP,h1,vE,pb,c1,c2]
     ·rw [if_neg (by simp [c1,c2])] at fT
      have i1:=FK ht.2.1
      have i2:=FK hu.2.1
      by_cases c3:t.head=u.head
      ·rw [if_neg (by simp [c3])] at fT
       have Ga:¬ u.head<0:=c2
       simp only [go_sem,aB,aP,h1,vE,pb,c3,Ga,ak]
       have hlen:t.args.length=u.args.length:=by
        have l1:=Jb ht.2.2.1 (by omega)
        have l2:=Jb hu.2.2.1 (by omega)
        rw [c3,← l2] at l1;omega
       have mz:=qh t.args
       have AY:=oM t
       refine aK.dc (ι:={i:Nat // i≤t.args.length∧gH g x (t.args.drop i) (u.args.drop i)=dU g t u}) 1000
        (fun q=>f_ 85 [(0, .ps 4 (syms g)),(4, .ptr 0 0),(5, .ptr 1 0),(6, .int .i64 0),(7, .ptr 3 0),(25, .ps 2 (t.args.map Tm.aO)),(26, .int .i64 t.args.length),(27, .int .i64 q.1)])
        (fun _=>[some (.var [.int .i64 u.head, .ps 2 (t.args.map Tm.aO)]),some (.var [.int .i64 u.head, .ps 2 (u.args.map Tm.aO)]),none,some (.var [.int .i64 0, .pm (kg x.2) (lU x.2)])]) (fun q=>t.args.length - q.1) ⟨0,by simp [fT]⟩ ?_ (fun _=>av _) ?_
       ·simp only [go_sem,dK,bR,rJ]
       ·rintro ⟨i,hi,aQ⟩
        by_cases bG:(i:Int)<t.args.length
        ·have aZ:i<t.args.length:=by omega
         have JA:i<u.args.length:=by omega
         have hw:IntKind.i64.wrap ((i:Int)+1)=((i+1:Nat):Int):=by rw [eC (by omega)];omega
         have rZ:(t.args.map Tm.aO).getD i .undef=t.args[i].aO:=n6 aZ
         have vG:(u.args.map Tm.aO).getD i .undef=u.args[i].aO:=n6 JA
         have wy:=aE aZ
         have o1:=Lr ht wy
         have o2:=Lr hu (aE JA)
         have sB:=tA wy
         have s_:=Lq g hg kZ n t.args[i] u.args[i] (by omega) o1 o2
         rw [ao aZ,ao JA,gH] at aQ
         generalize t.args[i]=y at *
         generalize u.args[i]=z at *
         generalize dU g y z=r at *
         have hlI:(i:Int)<u.args.length:=by omega
         simp only [go_sem,bG]
         refine aK.draw [] 4 4 mixed rfl rfl (by decide) ?_
         simp only [go_sem,dC,ak,rZ,vG,fJ]
         refine ⟨⟨by omega,bG⟩,⟨by omega,hlI⟩,?_⟩
         refine n5 s_ (by simp only [dh,bh,bq];exact cJ _ _ _) (by simp [go_sem,dH,dK]) ?_
         simp only [go_sem]
         by_cases r0:r=0
         ·rw [if_neg (by simp [r0])] at aQ
          refine aK.go 1000 ?_
          simp only [go_sem,r0,hw]
          refine ⟨⟨i+1,by omega,aQ⟩,?_,by simp only;omega⟩
          simp only [go_sem,dK,bR,rJ]
         ·rw [if_pos r0] at aQ
          by_cases r2:r=2
          ·rw [if_pos r2] at aQ
           refine aK.go 1000 ?_
           simp only [go_sem,r0,r2]
           refine aK.go 1000 ?_
           simp only [go_sem,← aQ]
          ·rw [if_neg r2] at aQ
           refine aK.go 1000 ?_
           simp only [go_sem,r0,r2]
           refine aq.tb (b:=3) (cs:=[.int .i64 0, .pm (kg x.2) (lU x.2)]) [] rfl (rP r) ?_ ?_ rfl ?_
           ·exact cJ _ _ _
           ·simp [go_sem,rJ]
           refine aK.go 1000 ?_
           simp only [go_sem]
           refine aK.go 1000 ?_
           simp only [go_sem,← aQ]
        ·have dV:i=t.args.length:=by omega
         subst dV
         rw [aV,gH] at aQ
         simp only [go_sem,bG]
         refine aK.go 1000 ?_
         simp only [go_sem,← aQ]
      ·rw [if_pos c3] at fT
       have hw:IntKind.i64.wrap (t.head - u.head)=t.head - u.head:=eC (by omega)
       simp only [go_sem,aB,aP,h1,vE,pb,c1,c2,c3,hw]
       refine aq.tb (b:=3) (cs:=[.int .i64 0, .pm (kg x.2) (lU x.2)]) [] rfl (rP (t.head - u.head)) ?_ ?_ rfl ?_
       ·exact cJ _ _ _
       ·simp [go_sem,rJ]
       refine aK.go 1000 ?_
       simp only [go_sem,fT]
   ·rw [if_pos h1] at fT
    simp only [go_sem,aB,aP,h1,vE,pb]
    refine aq.tb (b:=3) (cs:=[.int .i64 x.1, .pm (kg x.2) (lU x.2)]) [] rfl (rP x.1) ?_ ?_ rfl ?_
    ·exact cJ _ _ _
    ·simp [go_sem,rJ]
    refine aK.go 1000 ?_
    simp only [go_sem,fT]
def dW (g:List Sy):List Tm→Int
 | []=>0
 | t :: ts=>if t.term g=0 then dW g ts else t.term g
theorem T8 (g:List Sy) (ts:List Tm) (hl:ts.length<100000000) (ht:∀ t∈ts,t.size<99999999):aJ Tryz.prog 194 [.ps 4 (syms g), .ps 2 (ts.map Tm.aO)] (.int .i64 (dW g ts)):=by
 refine aJ.begin (rs:=[.tmp 4]) (m:=19) 1000 Tryz.func194 rfl rfl rfl (by decide) trivial ?_
 simp only [go_sem,ak]
 refine aK.dc (ι:={i:Nat // i≤ts.length∧dW g (ts.drop i)=dW g ts}) 1000 (fun q=>f_ 21 [(0, .ps 4 (syms g)),(4, .int .i64 0),(8, .ps 2 (ts.map Tm.aO)),(9, .int .i64 ts.length),(10, .int .i64 q.1)])
  (fun _=>[]) (fun q=>ts.length - q.1) ⟨0,by simp⟩ ?_ (fun _=>av _) ?_
 ·simp only [go_sem,dK,bR]
 ·rintro ⟨i,hi,aQ⟩
  by_cases bG:(i:Int)<ts.length
  ·have aZ:i<ts.length:=by omega
   have hw:IntKind.i64.wrap ((i:Int)+1)=((i+1:Nat):Int):=by rw [eC (by omega)];omega
   have rZ:(ts.map Tm.aO).getD i .undef=ts[i].aO:=n6 aZ
   have hm:=ht _ (aE aZ)
   have htw:=LK g ts[i] (by omega)
   rw [ao aZ,dW] at aQ
   generalize ts[i]=t at *
   simp only [go_sem,bG,ak,rZ,fJ]
   refine ⟨by omega,?_⟩
   refine aq.bV [] (htw) (by (try simp only [dh]);exact cJ _ _ _) (by simp [go_sem,dH,bR,dK]) ?_;simp only [bP,bY,bX,if_true];refine aK.go 1000 ?_
   by_cases h:t.term g=0
   ·rw [if_pos h] at aQ
    simp only [go_sem,h,hw]
    refine ⟨⟨i+1,by omega,aQ⟩,?_,by simp only;omega⟩
    simp only [go_sem,dK,bR]
   ·rw [if_neg h] at aQ
    simp only [go_sem,h]
    refine aK.go 1000 ?_
    simp only [go_sem,aQ]
  ·have dV:i=ts.length:=by omega
   subst dV
   rw [aV,dW] at aQ
   simp only [go_sem,bG]
   refine aK.go 1000 ?_
   simp only [go_sem,← aQ]
theorem Zub (g:List Sy) (hg:tC g) (kZ:g.length<1000000) (t u:Tm) (ht:t.size<99999999) (hu:u.size<99999999) (ju:dW g [t,u]=0→jF g t∧jF g u) :
  aJ Tryz.prog 171 [.ps 4 (syms g),t.aO,u.aO] (.dA [.int .i64 (if dW g [t,u]=0 then dU g t u else 0), .int .i64 (dW g [t,u])]):=by
 refine aJ.begin (rs:=[.tmp 6, .tmp 7]) (m:=18) 1000 Tryz.func171 rfl rfl rfl (by decide) ⟨trivial,trivial,trivial⟩ ?_
 have hw:=T8 g [t,u] (by simp) (fun y hy=>by simp at hy;rcases hy with rfl | rfl<;>assumption)
 simp only [go_sem,fJ]
 refine aq.bV [2] hw ?_ (by simp [go_sem,dH,dK]) ?_
 ·simp only [go_sem,dh,aB,aP]
 simp only [bP,bY,bX,if_true]
 refine aK.go 1000 ?_
 by_cases h:dW g [t,u]=0
 ·obtain ⟨o1,o2⟩:=ju h
  rw [if_pos h]
  simp only [go_sem,h]
  refine aq.bV [] (Lq g hg kZ t.size t u (ah _) o1 o2) (by (try simp only [dh]);exact cJ _ _ _) (by simp [go_sem,dH,bR,dK]) ?_;simp only [bP,bY,bX,if_true];refine aK.go 1000 ?_
  simp only [go_sem]
 ·rw [if_neg h]
  simp only [go_sem,h]
def xJ (l:Li):Prop:=l.l.size<999999999∧l.r.size<999999999
def nk (a b:Li):Bool:=(decide (a.l=b.l)&&decide (a.r=b.r))||(decide (a.l=b.r)&&decide (a.r=b.l))
theorem SJ (a b:Li) (ha:xJ a) (hb:xJ b):aJ Tryz.prog 102 [a.aO,b.aO] (.bool (nk a b)):=by
 refine aJ.begin (rs:=[.tmp 4]) (m:=29) 1000 Tryz.func102 rfl rfl rfl (by decide) trivial ?_
 obtain ⟨a1,a2⟩:=ha
 obtain ⟨b1,b2⟩:=hb
 have s1:=Ab a.l b.l (by omega) (by omega)
 have s2:=Ab a.r b.r (by omega) (by omega)
 have s3:=Ab a.l b.r (by omega) (by omega)
 have s4:=Ab a.r b.l (by omega) (by omega)
 unfold nk
 generalize decide (a.l=b.l)=p1 at *
 generalize decide (a.r=b.r)=p2 at *
 generalize decide (a.l=b.r)=p3 at *
 generalize decide (a.r=b.l)=p4 at *
 simp only [go_sem,kL]
 refine aq.bV [] (s1) (by (try simp only [dh]);exact cJ _ _ _) (by simp [go_sem,dH,bR]) ?_;simp only [bP,bY,bX,if_true];refine aK.go 1000 ?_
 cases p1
 ·simp only [go_sem]
  refine aq.bV [] (s3) (by (try simp only [dh]);exact cJ _ _ _) (by simp [go_sem,dH,bR]) ?_;simp only [bP,bY,bX,if_true];refine aK.go 1000 ?_
  cases p3
  ·simp only [go_sem,dg,ou]
  ·simp only [go_sem]
   refine aq.bV [] (s4) (by (try simp only [dh]);exact cJ _ _ _) (by simp [go_sem,dH,bR]) ?_;simp only [bP,bY,bX,if_true];refine aK.go 1000 ?_
   simp only [go_sem,dg,du,cy]
 ·simp only [go_sem]
  refine aq.bV [] (s2) (by (try simp only [dh]);exact cJ _ _ _) (by simp [go_sem,dH,bR]) ?_;simp only [bP,bY,bX,if_true];refine aK.go 1000 ?_
  cases p2
  ·simp only [go_sem]
   refine aq.bV [] (s3) (by (try simp only [dh]);exact cJ _ _ _) (by simp [go_sem,dH,bR]) ?_;simp only [bP,bY,bX,if_true];refine aK.go 1000 ?_
   cases p3
   ·simp only [go_sem,dg,ib,ou]
   ·simp only [go_sem]
    refine aq.bV [] (s4) (by (try simp only [dh]);exact cJ _ _ _) (by simp [go_sem,dH,bR]) ?_;simp only [bP,bY,bX,if_true];refine aK.go 1000 ?_
    simp only [go_sem,ib,du,cy]
  ·simp only [go_sem,ot,fU]
theorem Us (a b:Li) (ha:xJ a) (hb:xJ b):aJ Tryz.prog 65 [a.aO,b.aO] (.bool (decide (a.neg=b.neg)&&nk a b)):=by
 refine aJ.begin (rs:=[.tmp 4]) (m:=13) 1000 Tryz.func65 rfl rfl rfl (by decide) trivial ?_
 have h:=SJ a b ha hb
 simp only [go_sem,kL]
 have hd:decide (a.neg=b.neg)=(a.neg==b.neg):=rfl
 rw [hd]
 cases c:a.neg==b.neg
 ·simp only [go_sem,c,dg]
 ·simp only [go_sem,c]
  refine aq.bV [] h (cJ _ _ _) ⟨na _,na _,trivial⟩ ?_
  simp only [bP,bY,bX,if_true]
  refine aK.go 1000 ?_
  simp only [go_sem,cy]
def ko (l:Li):List Tm:=if l.neg then [l.l,l.l,l.r,l.r] else [l.l,l.r]
theorem PU (l:Li):aJ Tryz.prog 216 [l.aO] (.ps 2 ((ko l).map Tm.aO)):=by
 refine aJ.begin (rs:=[.tmp 2]) (m:=18) 1000 Tryz.func216 rfl rfl rfl (by decide) (bR _) ?_
 unfold ko
 cases h:l.neg
 ·simp only [go_sem,kL,h,a_,if_false,aB,aP]
  rw [dh l.l,dh l.r]
  exact ⟨wm _ _ _,wm _ _ _⟩
 ·simp only [go_sem,kL,h,if_true,aB,aP]
  rw [dh l.l,dh l.r]
  repeat (first | exact wm _ _ _ | exact cJ _ _ _ | refine ⟨wm _ _ _,?_⟩)
def pH (l:List Tm) (i:Nat):List Tm:=l.take i++l.drop (i+1)
def dY:List Tm→List Tm→List Tm
 | [],_=>[]
 | t :: a,b=>if dJ (fun x=>decide (t=x)) b 0<0 then t :: dY a b else dY a (pH b (dJ (fun x=>decide (t=x)) b 0).toNat)
theorem Zun (l:List Tm) (hl:l.length≤1000000000):aq Tryz.prog (.fn 200 [] []) [.ps 2 (l.map Tm.aO)] [] (fun r σ'=>(r = .os 1 0 l.length 2∧σ'=[none,some (.row (l.map Tm.aO) 0)])∨(l=[]∧r = .aU∧σ'=[])):=by
 by_cases h:l=[]
 ·subst h
  refine (bT.v Zue).mono ?_
  rintro r σ' (⟨rfl,rfl⟩ | ⟨rfl,rfl⟩)
  ·exact .inr ⟨rfl,rfl,rfl⟩
  ·exact .inl ⟨rfl,rfl⟩
 ·refine (bT.v (Fh l h hl).1).mono ?_
  rintro r σ' ⟨rfl,rfl⟩
  exact .inl ⟨rfl,rfl⟩
theorem Yg4 (σ:ai) (b:Nat) (t x:Tm) (hb:bH σ b=some (.var [.int .i64 t.head, .ps 2 (t.args.map Tm.aO)])) (hs:bw σ.length σ) (ht:t.size<999999999) (hx:x.size<999999999) :
  aq Tryz.prog (.fn 240 [] [.ptr b 0]) [x.aO] σ (fun r σ'=>r = .bool (decide (t=x))∧σ' = σ):=by
 have h:aJ Tryz.prog 240 [x.aO, .pp [.int .i64 t.head, .ps 2 (t.args.map Tm.aO)]] (.bool (decide (t=x))):=by
  refine aJ.begin (rs:=[.tmp 3]) (m:=5) 1000 Tryz.func240 rfl rfl rfl (by decide) trivial ?_
  simp only [go_sem,fJ]
  refine aq.bV [] (Ab t x (by omega) (by omega)) (by (try simp only [dh]);exact cJ _ _ _) (by simp [go_sem,dH,bR]) ?_;simp only [bP,bY,bX,if_true];refine aK.go 1000 ?_
  simp only [go_sem]
 refine aq.tb (b:=b) (cs:=[.int .i64 t.head, .ps 2 (t.args.map Tm.aO)]) [] hb h ?_ ⟨dH x,⟨trivial,bR _,trivial⟩,trivial⟩ rfl ⟨rfl,rfl⟩
 have h1:tB b [.int .i64 t.head, .ps 2 (t.args.map Tm.aO)] x.aO=x.aO:=by rw [dh];rfl
 have h2:tB b [.int .i64 t.head, .ps 2 (t.args.map Tm.aO)] (.ptr b 0) = .pp [.int .i64 t.head, .ps 2 (t.args.map Tm.aO)]:=by simp [tB,yb]
 simp only [bh,bn,aB,aP,h1,h2]
 exact cJ _ _ _
theorem Uh (a b:List Tm) (ha:a.length<1000000) (hb:b.length<1000000) (AY:∀ t∈a,t.size<99999999) (tH:∀ t∈b,t.size<99999999):aJ Tryz.prog 230 [.ps 2 (a.map Tm.aO), .ps 2 (b.map Tm.aO)] (.ps 2 ((dY a b).map Tm.aO)):=by
 refine aJ.begin (rs:=[.tmp 4]) (m:=32) 1000 Tryz.func230 rfl rfl rfl (by decide) (bR _) ?_
 simp only [go_sem]
 refine (Zun b (by omega)).mono ?_
 rintro r σ' (⟨rfl,rfl⟩ | ⟨rfl,rfl,rfl⟩)
 ·refine aK.go 1000 ?_
  simp only [go_sem,ak]
  refine aK.im (ι:={q:Nat×List Tm×List Tm // q.1≤a.length∧q.2.1++dY (a.drop q.1) q.2.2=dY a b∧q.2.1.length≤q.1∧q.2.2.length≤b.length∧∀ x∈q.2.2,x.size<99999999}) 1000
   (fun q=>f_ 34 [(4, .aU),(5, .os 1 0 q.1.2.2.length 2),(6,jo 2 2 (q.1.2.1.map Tm.aO)),(12, .ps 2 (a.map Tm.aO)),(13, .int .i64 a.length),(14, .int .i64 q.1.1)])
   (fun q=>[none,some (.row (q.1.2.2.map Tm.aO) 0),e9 (q.1.2.1.map Tm.aO)]) (fun q=>a.length - q.1.1) ⟨(0,[],b),by simpa using tH⟩ [] ?_ (fun _=>av _) ?_
  ·refine jb rfl ?_
   simp only [go_sem,bR,cI (bR _),aP,uW,tY]
  ·rintro ⟨⟨i,L,c⟩,hi,aQ,AE,gU,sV⟩
   simp only at hi aQ AE gU sV
   by_cases bG:(i:Int)<a.length
   ·have aZ:i<a.length:=by omega
    have hw:IntKind.i64.wrap ((i:Int)+1)=((i+1:Nat):Int):=by rw [eC (by omega)];omega
    have rZ:(a.map Tm.aO).getD i .undef=a[i].aO:=n6 aZ
    have rR:=AY _ (aE aZ)
    rw [ao aZ,dY] at aQ
    generalize a[i]=t at *
    simp only [go_sem,bG,ak,rZ,fJ]
    refine ⟨by omega,?_⟩
    refine (Ztt _ (.fn 240 [] [.ptr 3 0]) (fun x=>decide (t=x)) c rfl (by omega) ?_ ?_ (fun j hj=>Yg4 _ 3 t c[j] rfl ?_ (by omega) (by have:=sV _ (aE hj);omega))).mono ?_
    ·simp only [go_sem,bR]
    ·simp only [go_sem]
    ·simp only [go_sem,bR]
    rintro r σ' ⟨rfl,rfl⟩
    rcases H0 (fun x=>decide (t=x)) c 0 (by omega) with ⟨q1,_⟩ | ⟨k,q1,q2,_⟩
    ·rw [q1] at aQ ⊢
     rw [if_pos (by omega)] at aQ
     refine aK.go 1000 ?_
     simp only [go_sem,Int.reduceNeg,Int.reduceLT]
     have h2:bH [none,some (bE.row (c.map Tm.aO) 0),e9 (L.map Tm.aO),some (bE.var [.int .i64 t.head, .ps 2 (t.args.map Tm.aO)]),some (bE.row [.agg [.int .i64 t.head, .ps 2 (t.args.map Tm.aO)]] 0)] 2=e9 (L.map Tm.aO):=rfl
     have nR:=of_eq_true (Cu [t])
     rw [show [t].map Tm.aO=[t.aO] from rfl,dh t] at nR
     simp only [go_sem,vl h2,nR,ak,hw]
     refine ⟨by omega,⟨(i+1,L++[t],c),by simp only;omega,by rw [← aQ];simp,by simp only [ay,ax,aS];omega,gU,sV⟩,[(2,5),(5,2)],jb rfl ?_,by simp only;omega⟩
     have lw:bz 0 ((L++[t]).map Tm.aO):=bR _
     dsimp only
     rw [cD] at lw ⊢
     rw [wo (by simp),wq (by simp)]
     simp only [aB,aP,dh t] at lw
     simp only [go_sem,bR,cI (bR _),cI lw,iC (av 3) lw,ak,ax,aS,aB,aP,dh t]
    ·have Dd:(0:Int)+k=k:=by omega
     rw [q2,Dd] at aQ ⊢
     rw [if_neg (by omega),cd] at aQ
     have NH:¬ (k:Int)<0:=by omega
     have EX:IntKind.i64.wrap ((k:Int)+1)=((k+1:Nat):Int):=by rw [eC (by omega)];omega
     refine aK.go 1000 ?_
     simp only [go_sem,NH,EX]
     refine aq.Ar (f:=.fn 241 [] []) (args:=[.os 0 0 c.length 2, .int .i64 k, .int .i64 ((k+1:Nat):Int)]) (B:=.row (c.map Tm.aO) 0) 1 rfl (bR _) ⟨trivial,trivial⟩ ⟨cq,trivial,trivial,trivial⟩ ((Zzi c k q1 (by omega)).mono ?_)
     rintro r σ' ⟨rfl,rfl⟩
     refine ⟨cq,_,rfl,bR _,?_⟩
     have ym:(pH c k).length=c.length - 1:=by simp only [pH,ay,cY,cj];omega
     rw [show c.take k++c.drop (k+1)=pH c k from rfl,← ym]
     simp only [go_sem,cW,c_]
     refine aK.go 1000 ?_
     simp only [go_sem,hw]
     refine ⟨⟨(i+1,L,pH c k),by simp only;omega,aQ,by simp only;omega,by simp only;omega,fun x hx=>?_⟩,[],jb rfl ?_,by simp only;omega⟩
     ·rcases aW.1 hx with hx | hx
      ·exact sV x (lZ hx)
      ·exact sV x (List.mem_of_mem_drop hx)
     simp only [go_sem,bR,cI (bR _),Il (bR L)]
   ·have dV:i=a.length:=by omega
    subst dV
    rw [aV,dY,bq] at aQ
    simp only [go_sem,bG]
    refine aK.go 1000 ?_
    simp only [go_sem]
    rw [← aQ,sn rfl rfl];trivial
 ·refine aK.go 1000 ?_
  simp only [go_sem,ak]
  refine aK.im (ι:={q:Nat×List Tm // q.1≤a.length∧q.2++dY (a.drop q.1) []=dY a []∧q.2.length≤q.1}) 1000
   (fun q=>f_ 34 [(4, .aU),(5, .aU),(6,jo 0 2 (q.1.2.map Tm.aO)),(12, .ps 2 (a.map Tm.aO)),(13, .int .i64 a.length),(14, .int .i64 q.1.1)])
   (fun q=>[e9 (q.1.2.map Tm.aO)]) (fun q=>a.length - q.1.1) ⟨(0,[]),by simp⟩ [] ?_ (fun _=>av _) ?_
  ·refine jb rfl ?_
   simp only [go_sem,bR,cI (bR _),aP,uW,tY]
  ·rintro ⟨⟨i,L⟩,hi,aQ,AE⟩
   simp only at hi aQ AE
   by_cases bG:(i:Int)<a.length
   ·have aZ:i<a.length:=by omega
    have hw:IntKind.i64.wrap ((i:Int)+1)=((i+1:Nat):Int):=by rw [eC (by omega)];omega
    have rZ:(a.map Tm.aO).getD i .undef=a[i].aO:=n6 aZ
    have rR:=AY _ (aE aZ)
    rw [ao aZ,dY,if_pos (by simp [dJ])] at aQ
    generalize a[i]=t at *
    simp only [go_sem,bG,ak,rZ,fJ]
    refine ⟨by omega,?_⟩
    refine aq.Ms (args':=[.ps 2 (([]:List Tm).map Tm.aO), .fn 240 [] [.ptr 1 0]]) ?_ ?_
    ·simp only [go_sem,aP]
    refine (R2 _ (.fn 240 [] [.ptr 1 0]) (fun x=>decide (t=x)) [] (by simp) ?_ ?_ (fun j hj=>by simp at hj)).mono ?_
    ·simp only [go_sem,bR]
    ·simp only [go_sem]
    rintro r σ' ⟨rfl,rfl⟩
    rw [show dJ (fun x=>decide (t=x)) [] 0 = -1 from rfl]
    refine aK.go 1000 ?_
    simp only [go_sem,Int.reduceNeg,Int.reduceLT]
    have h2:bH [e9 (L.map Tm.aO),some (bE.var [.int .i64 t.head, .ps 2 (t.args.map Tm.aO)]),some (bE.row [.agg [.int .i64 t.head, .ps 2 (t.args.map Tm.aO)]] 0)] 0=e9 (L.map Tm.aO):=rfl
    have nR:=of_eq_true (Cu [t])
    rw [show [t].map Tm.aO=[t.aO] from rfl,dh t] at nR
    simp only [go_sem,vl h2,nR,ak,hw]
    refine ⟨by omega,⟨(i+1,L++[t]),by simp only;omega,by rw [← aQ];simp,by simp only [ay,ax,aS];omega⟩,[(0,3),(3,0)],jb rfl ?_,by simp only;omega⟩
    have lw:bz 0 ((L++[t]).map Tm.aO):=bR _
    dsimp only
    rw [cD] at lw ⊢
    rw [wo (by simp),wq (by simp)]
    simp only [aB,aP,dh t] at lw
    simp only [go_sem,bR,cI (bR _),cI lw,iC (av 1) lw,ak,ax,aS,aB,aP,dh t]
   ·have dV:i=a.length:=by omega
    subst dV
    rw [aV,dY,bq] at aQ
    simp only [go_sem,bG]
    refine aK.go 1000 ?_
    simp only [go_sem]
    rw [← aQ,sn rfl rfl];trivial
def uc (g:List Sy) (a:List Tm) (y:Tm):Bool:=a.any fun x=>decide (dU g x y=1)
def mO (g:List Sy) (a b:List Tm):Bool:=decide (0<a.length) && !(b.any fun y=>!uc g a y)
def tu (t:Tm):Option bE:=some (.var [.int .i64 t.head, .ps 2 (t.args.map Tm.aO)])
def pn (g:List Sy) (a:List Tm):ai:=[some (.var [.ps 4 (syms g)]),some (.var [.ps 2 (a.map Tm.aO)]),some (.var [.fn 242 [] [.ptr 1 0, .ptr 0 0]])]
theorem ZM (g:List Sy) (hg:tC g) (kZ:g.length<1000000) (a:List Tm) (x y:Tm) (hx:jF g x) (hy:jF g y) :
  aq Tryz.prog (.fn 243 [] [.ptr 0 0, .ptr 4 0]) [x.aO] (pn g a++[tu y,tu y]) (fun r σ'=>r = .bool (decide (dU g x y=1))∧σ'=pn g a++[tu y,tu y]):=by
 unfold pn tu
 refine aq.begin (rs:=[.tmp 4]) (m:=7) 1000 Tryz.func243 rfl rfl rfl rfl rfl ?_
 have hs:=Lq g hg kZ x.size x y (ah _) hx hy
 simp only [go_sem,fJ,bn,bh]
 refine aq.bV [] hs (by simp only [dh,bn,bh,bq];exact cJ _ _ _) (by simp [go_sem,dH,dK]) ?_
 simp only [bP,bY,bX,if_true]
 refine aK.go 1000 ?_
 simp only [go_sem]
 rw [fY]
 exact ⟨pn g a++[tu y,tu y],by simp [pn,tu,go_sem],by simp [pn],by simp [pn,tu,go_sem,dK,bR],trivial,rfl,rfl⟩
theorem I5 (g:List Sy) (a:List Tm) (l:List Tm) {n:Nat} (hn:n=3+l.length):bw n (pn g a++l.map tu):=by
 subst hn
 refine py ?_ ?_
 ·refine nL (bO 3 _) ?_
  simp [pn,go_sem,dK,bR]
 ·induction l with
  | nil=>trivial
  | cons x l ih=>exact ⟨⟨trivial,bR _,trivial⟩,nL (by simp) ih⟩
theorem Ymm (g:List Sy) (hg:tC g) (kZ:g.length<1000000) (a:List Tm) (y:Tm) (ha:∀ x∈a,jF g x) (mz:a.length<1000000) (hy:jF g y) :
  aq Tryz.prog (.fn 242 [] [.ptr 1 0, .ptr 0 0]) [y.aO] (pn g a++[tu y]) (fun r σ'=>r = .bool (uc g a y)∧σ'=pn g a++[tu y]):=by
 refine aq.begin (rs:=[.tmp 4]) (m:=5) 1000 Tryz.func242 rfl rfl rfl rfl rfl ?_
 have hc:=J_ (pn g a++[tu y,tu y]) (.fn 243 [] [.ptr 0 0, .ptr 4 0]) (fun x=>decide (dU g x y=1)) a (by omega) (I5 g a [y,y] rfl) (by simp [pn,go_sem]) (fun i h=>ZM g hg kZ a a[i] y (ha _ (aE h)) hy)
 unfold pn tu at hc ⊢
 simp only [go_sem,fJ,bn,bh]
 refine hc.mono ?_
 rintro r σ' ⟨rfl,rfl⟩
 refine aK.go 1000 ?_
 simp only [go_sem,bn,bh]
 rw [fY]
 exact ⟨pn g a++[tu y],by simp [pn,tu,go_sem],by simp [pn],I5 g a [y] rfl,trivial,rfl,rfl⟩
theorem Ymc (g:List Sy) (hg:tC g) (kZ:g.length<1000000) (a:List Tm) (y:Tm) (ha:∀ x∈a,jF g x) (mz:a.length<1000000) (hy:jF g y) :
  aq Tryz.prog (.fn 244 [] [.ptr 2 0]) [y.aO] (pn g a) (fun r σ'=>r = .bool (!uc g a y)∧σ'=pn g a):=by
 refine aq.begin (rs:=[.tmp 3]) (m:=6) 1000 Tryz.func244 rfl rfl rfl rfl rfl ?_
 have hc:=Ymm g hg kZ a y ha mz hy
 rw [dh y] at hc
 unfold pn tu at hc
 unfold pn
 simp only [go_sem,fJ,bn,bh]
 refine hc.mono ?_
 rintro r σ' ⟨rfl,rfl⟩
 refine aK.go 1000 ?_
 simp only [go_sem,bn,bh]
 rw [fY]
 exact ⟨pn g a,by simp [pn,tu,go_sem],by simp [pn],(show bw 3 (pn g a) by simpa using I5 g a [] rfl),trivial,rfl,rfl⟩
theorem U2 (g:List Sy) (hg:tC g) (kZ:g.length<1000000) (a b:List Tm) (ha:∀ x∈a,jF g x) (hb:∀ x∈b,jF g x) (mz:a.length<1000000) (wu:b.length<1000000) :
  aJ Tryz.prog 231 [.ps 4 (syms g), .ps 2 (a.map Tm.aO), .ps 2 (b.map Tm.aO)] (.bool (mO g a b)):=by
 refine aJ.begin (rs:=[.tmp 6]) (m:=15) 1000 Tryz.func231 rfl rfl rfl (by decide) trivial ?_
 have hc:=J_ (pn g a) (.fn 244 [] [.ptr 2 0]) (fun y=>!uc g a y) b (by omega) (show bw 3 (pn g a) by simpa using I5 g a [] rfl) (by simp [pn,go_sem]) (fun i h=>Ymc g hg kZ a b[i] ha mz (hb _ (aE h)))
 unfold pn at hc
 by_cases h:(0:Int)<a.length
 ·have h' : 0<a.length:=by omega
  simp only [go_sem,ak,h]
  refine hc.mono ?_
  rintro r σ' ⟨rfl,rfl⟩
  refine aK.go 1000 ?_
  simp only [go_sem,mO,h',decide_true,cy]
 ·have h':¬ 0<a.length:=by omega
  simp only [go_sem,ak,h,mO,h',decide_false,dg]
theorem ZG (n:Nat) (hn:n<10000000):aq Tryz.prog (.fn 239 [] []) [.aU, .int .i64 n] [] (fun r σ'=>(n=0∧r = .aU∧σ'=[])∨∃ J,bz 0 J∧r = .os 0 0 0 2∧σ'=[some (.row J 0)]):=by
 refine aq.begin (rs:=[.tmp 4]) (m:=25) 1000 Tryz.func239 rfl rfl rfl rfl rfl ?_
 have h1:¬ (n:Int)<0:=by omega
 have hw:IntKind.i64.wrap (n:Int)=n:=eC (by omega)
 have JK:IntKind.i64.wrap 0=0:=eC (by omega)
 by_cases h:(0:Int)<n
 ·have h2:¬ n=0:=by omega
  have h3:n≤6000000000000:=by omega
  have hz:eQ ⟨2,true,32,[.int .i64 0, .aU], .struct⟩ (List.replicate n (.agg [.int .i64 0, .aU])):=⟨fun x hx=>by rw [(List.mem_replicate.1 hx).2];exact ⟨rfl,rfl⟩,by decide,by decide,rfl⟩
  simp only [go_sem,h1,hw,JK,h,hz,bA,h2,h3]
  have hJ:∀ k m,bz k (List.replicate m (ae.agg [.int .i64 0, .aU])):=fun k m=>by
   induction m with
   | zero=>trivial
   | succ m ih=>rw [fM];exact ⟨⟨trivial,trivial,trivial⟩,ih⟩
  refine ⟨⟨by omega,by omega⟩,by omega,?_⟩
  rw [fY]
  exact ⟨_,fN _,av _,⟨hJ _ _,trivial⟩,cq,_,hJ _ _,rfl,rfl⟩
 ·simp only [go_sem,h1,hw,JK,h]
  rw [fY]
  exact ⟨[],trivial,ah _,trivial,trivial, .inl ⟨by omega,rfl,rfl⟩⟩
def Gc (a b:List Tm):Nat→Nat
 | 0=>0
 | 1=>a.length
 | _=>a.length+b.length
def CO (a b:List Tm) (J:List ae):Nat→List ae
 | 0=>J
 | 1=>a.map Tm.aO
 | _=>(a++b).map Tm.aO
theorem Zu7 (a b:List Tm) (ha:a.length<1000000) (hb:b.length<1000000):aJ Tryz.prog 229 [.ps 1 [.ps 2 (a.map Tm.aO), .ps 2 (b.map Tm.aO)]] (.ps 2 ((a++b).map Tm.aO)):=by
 refine aJ.begin (rs:=[.tmp 2]) (m:=35) 1000 Tryz.func229 rfl rfl rfl (by decide) (bR _) ?_
 have c0:Gc a b 0=0:=rfl
 have c1:Gc a b 1=a.length:=rfl
 have c2:Gc a b 2=a.length+b.length:=rfl
 have lq:((2:Nat):Int)=2:=rfl
 have r7:IntKind.i64.wrap ((1:Int)+1)=((2:Nat):Int):=eC (by omega)
 simp only [go_sem,ax,aS]
 refine aK.dc (ι:={i:Nat // i≤2}) 1000 (fun q=>f_ 36 [(0, .ps 1 [.ps 2 (a.map Tm.aO), .ps 2 (b.map Tm.aO)]),(2, .aU),(3, .int .i64 (Gc a b q.1)),(9, .ps 1 [.ps 2 (a.map Tm.aO), .ps 2 (b.map Tm.aO)]),(10, .int .i64 ((2:Nat):Int)),(11, .int .i64 q.1)])
  (fun _=>[]) (fun q=>2 - q.1) ⟨0,by omega⟩ ?_ (fun _=>av _) ?_
 ·simp only [go_sem,c0,lq,bR]
 ·rintro ⟨i,hi⟩
  obtain rfl | rfl | rfl:i=0∨i=1∨i=2:=by omega
  ·have hw:IntKind.i64.wrap (a.length:Int)=a.length:=eC (by omega)
   have hn:¬ (a.length:Int)<0:=by omega
   simp only [go_sem,c0,lq,ak,hw,hn,bm]
   exact ⟨⟨1,by omega⟩,⟨⟨rfl,rfl⟩,bR _,bR _⟩,by simp only;omega⟩
  ·have hw:IntKind.i64.wrap ((a.length:Int)+b.length)=((a.length+b.length:Nat):Int):=by rw [eC (by omega)];omega
   have hn:¬ ((a.length+b.length:Nat):Int)<0:=by omega
   simp only [go_sem,c1,lq,ak,hw,hn,bm,bC]
   exact ⟨⟨2,by omega⟩,⟨⟨rfl,by rw [r7]⟩,bR _,bR _⟩,by simp only;omega⟩
  ·simp only [go_sem,c2,lq,lW]
   refine aK.go 1000 ?_
   simp only [go_sem]
   refine (ZG (a.length+b.length) (by omega)).mono ?_
   rintro r σ' (⟨hz,rfl,rfl⟩ | ⟨J,hJ,rfl,rfl⟩)
   ·have MS:a=[]:=aY (by omega)
    have xE:b=[]:=aY (by omega)
    subst MS;subst xE
    refine aK.go 1000 ?_
    simp only [go_sem,aP,ax,aS]
    refine aK.dc (ι:={i:Nat // i≤2}) 1000 (fun q=>f_ 36 [(2, .aU),(6, .aU),(25, .ps 1 [.ps 2 [], .ps 2 []]),(26, .int .i64 ((2:Nat):Int)),(27, .int .i64 q.1)])
     (fun _=>[]) (fun q=>2 - q.1) ⟨0,by omega⟩ ?_ (fun _=>av _) ?_
    ·simp only [go_sem,lq]
    ·rintro ⟨i,hi⟩
     obtain rfl | rfl | rfl:i=0∨i=1∨i=2:=by omega
     ·simp only [go_sem,lq,bm,aS]
      exact ⟨of_eq_true (Cu []),⟨1,by omega⟩,rfl,by simp only;omega⟩
     ·simp only [go_sem,lq,bm,bC,aS]
      exact ⟨of_eq_true (Cu []),⟨2,by omega⟩,by rw [r7],by simp only;omega⟩
     ·simp only [go_sem,lq,lW]
      refine aK.go 1000 ?_
      simp only [go_sem,bq,aP]
   ·refine aK.go 1000 ?_
    simp only [go_sem,ax,aS]
    refine aK.im (ι:={i:Nat // i≤2}) 1000 (fun q=>f_ 36 [(2, .aU),(6, .os 0 0 (Gc a b q.1) 2),(25, .ps 1 [.ps 2 (a.map Tm.aO), .ps 2 (b.map Tm.aO)]),(26, .int .i64 ((2:Nat):Int)),(27, .int .i64 q.1)])
     (fun q=>[some (.row (CO a b J q.1) 0)]) (fun q=>2 - q.1) ⟨0,by omega⟩ [] ?_ (fun _=>av _) ?_
    ·refine jb rfl ?_
     simp only [go_sem,lq,c0,show CO a b J 0=J from rfl,bR,cI (bR _),cI hJ,iC (av 1) hJ]
    ·rintro ⟨i,hi⟩
     obtain rfl | rfl | rfl:i=0∨i=1∨i=2:=by omega
     ·simp only [go_sem,lq,c0,show CO a b J 0=J from rfl,bm,ak]
      refine ⟨⟨by omega,by omega⟩,⟨1,by omega⟩,[(0,1),(1,0)],jb rfl ?_,by simp only;omega⟩
      simp only [go_sem,lq,c1,show CO a b J 1=a.map Tm.aO from rfl,bR,cI (bR _)]
     ·simp only [go_sem,lq,c1,show CO a b J 1=a.map Tm.aO from rfl,bm,bC,ak]
      refine ⟨⟨by omega,by omega⟩,⟨2,by omega⟩,[(0,1),(1,0)],jb rfl ?_,by simp only;omega⟩
      simp only [go_sem,lq,r7,c2,show CO a b J 2=(a++b).map Tm.aO from rfl,bR,cI (bR _),cD]
      have lw:bz 0 (a.map Tm.aO++b.map Tm.aO):=sl (bR a) (bR b)
      rw [bd (by simp),cI lw]
      exact ⟨rfl,iC (av 1) lw⟩
     ·simp only [go_sem,lq,c2,show CO a b J 2=(a++b).map Tm.aO from rfl,lW]
      refine aK.go 1000 ?_
      simp only [go_sem,ak,ay]
      rw [bd (by simp)]
      exact cJ _ _ _
theorem Iw:∀ (a b:List Tm) (t:Tm),t∈dY a b→t∈a
 | [],_,t,h=>by rw [dY] at h;cases h
 | x :: a,b,t,h=>by
  rw [dY] at h
  split at h
  ·rcases aR.1 h with rfl | h
   ·simp
   ·exact cu _ (Iw a b t h)
  ·exact cu _ (Iw a _ t h)
theorem Io:∀ (a b:List Tm),(dY a b).length≤a.length
 | [],_=>by rw [dY];exact ah _
 | x :: a,b=>by
  rw [dY]
  split
  ·have:=Io a b;simp only [ax];omega
  ·have:=Io a (pH b (dJ (fun y=>decide (x=y)) b 0).toNat);simp only [ax];omega
def pV (g:List Sy) (a b:List Tm):Int :=
 if (dY a b).length+(dY b a).length=0 then 0 else if mO g (dY a b) (dY b a)=true then 1 else if mO g (dY b a) (dY a b)=true then -1 else 2
theorem Ynn (g:List Sy) (hg:tC g) (kZ:g.length<1000000) (a b:List Tm) (ha:a.length<500000) (hb:b.length<500000) (hs:∀ t∈a++b,t.size<99999999) (ju:dW g (a++b)=0→∀ t∈a++b,jF g t) :
  aJ Tryz.prog 215 [.ps 4 (syms g), .ps 2 (a.map Tm.aO), .ps 2 (b.map Tm.aO)] (.dA [.int .i64 (if dW g (a++b)=0 then pV g a b else 0), .int .i64 (dW g (a++b))]):=by
 refine aJ.begin (rs:=[.tmp 6, .tmp 7]) (m:=40) 1000 Tryz.func215 rfl rfl rfl (by decide) ⟨trivial,trivial,trivial⟩ ?_
 have hw:=T8 g (a++b) (by simp;omega) hs
 have AY:∀ t∈a,t.size<99999999:=fun t ht=>hs t (by simp [ht])
 have tH:∀ t∈b,t.size<99999999:=fun t ht=>hs t (by simp [ht])
 simp only [go_sem]
 refine aq.bV [0] (Zu7 a b (by omega) (by omega)) ?_ ⟨⟨bR a,bR b,trivial⟩,trivial⟩ ?_
 ·simp only [go_sem]
 generalize bP _=fl
 have AX:∀ σ:ai,aq Tryz.prog (.fn 194 [] []) [.ps 4 (syms g), .ps 2 ((a++b).map Tm.aO)] σ (fun r σ'=>r = .int .i64 (dW g (a++b))∧σ' = σ):=fun σ=>by
  refine aq.bV [] hw (cJ _ _ _) ⟨dK _,bR (a++b),trivial⟩ ?_
  simp only [bP,bY,bX,if_true]
  exact ⟨trivial,trivial⟩
 obtain ⟨fz,EJ⟩:∃ fz,(if fl=true then [some (bE.row [.ps 2 (a.map Tm.aO), .ps 2 (b.map Tm.aO)] 0)] else fZ (among [0]) 0 [some (bE.row [.ps 2 (a.map Tm.aO), .ps 2 (b.map Tm.aO)] 0)])=[some (bE.row [.ps 2 (a.map Tm.aO), .ps 2 (b.map Tm.aO)] fz)]:=by
  cases fl
  ·exact ⟨_,rfl⟩
  ·exact ⟨_,rfl⟩
 rw [EJ]
 refine aK.go 1000 ?_
 simp only [go_sem]
 refine (AX _).mono ?_
 rintro r σ' ⟨rfl,rfl⟩
 by_cases h:dW g (a++b)=0
 ·have hk:=ju h
  have hka:∀ t∈a,jF g t:=fun t ht=>hk t (by simp [ht])
  have hkb:∀ t∈b,jF g t:=fun t ht=>hk t (by simp [ht])
  have l1:=Io a b
  have l2:=Io b a
  have m1:∀ t∈dY a b,jF g t:=fun t ht=>hka t (Iw _ _ t ht)
  have m2:∀ t∈dY b a,jF g t:=fun t ht=>hkb t (Iw _ _ t ht)
  have o1:=U2 g hg kZ (dY a b) (dY b a) m1 m2 (by omega) (by omega)
  have o2:=U2 g hg kZ (dY b a) (dY a b) m2 m1 (by omega) (by omega)
  refine aK.go 1000 ?_
  rw [if_pos h]
  simp only [go_sem,h]
  refine aq.bV [] (Uh a b (by omega) (by omega) AY tH) (cJ _ _ _) ⟨bR a,bR b,trivial⟩ ?_
  rw [jj];simp only [ite_self]
  refine aK.go 1000 ?_
  simp only [go_sem]
  refine aq.bV [] (Uh b a (by omega) (by omega) tH AY) (cJ _ _ _) ⟨bR b,bR a,trivial⟩ ?_
  rw [jj];simp only [ite_self]
  have G6:pV g a b=if (dY a b).length+(dY b a).length=0 then 0 else if mO g (dY a b) (dY b a)=true then 1 else if mO g (dY b a) (dY a b)=true then -1 else 2:=rfl
  rw [G6]
  generalize dY a b=x at *
  generalize dY b a=y at *
  have r7:IntKind.i64.wrap ((x.length:Int)+y.length)=((x.length+y.length:Nat):Int):=by rw [eC (by omega)];omega
  refine aK.go 1000 ?_
  by_cases h1:x.length+y.length=0
  ·rw [if_pos h1]
   have h2:((x.length+y.length:Nat):Int)=0:=by omega
   simp only [go_sem,ak,r7,h2]
  ·rw [if_neg h1]
   have h2:¬ ((x.length+y.length:Nat):Int)=0:=by omega
   simp only [go_sem,ak,r7,h2]
   refine aq.bV [] o1 (cJ _ _ _) ⟨dK _,bR x,bR y,trivial⟩ ?_
   simp only [bP,bY,bX,if_true]
   refine aK.go 1000 ?_
   cases h3:mO g x y
   ·simp only [go_sem,h3]
    refine aq.bV [] o2 (cJ _ _ _) ⟨dK _,bR y,bR x,trivial⟩ ?_
    simp only [bP,bY,bX,if_true]
    refine aK.go 1000 ?_
    cases h4:mO g y x
    ·simp only [go_sem,h4]
    ·simp only [go_sem,h4]
   ·simp only [go_sem,h3]
 ·refine aK.go 1000 ?_
  rw [if_neg h]
  simp only [go_sem,h]
def yS (g:List Sy) (l:Li):Prop:=jF g l.l∧jF g l.r
def rA (l:Li):Prop:=l.l.size<99999999∧l.r.size<99999999
theorem IF {l:Li} {t:Tm} (h:t∈ko l):t=l.l∨t=l.r:=by
 unfold ko at h
 split at h<;>simp at h<;>rcases h with rfl | rfl<;>simp
theorem Vn (l:Li):(ko l).length≤4:=by
 unfold ko;split<;>simp
theorem Bi {g:List Sy} {l:Li} (h:l.check g=0):l.l.term g=0∧l.r.term g=0:=by
 unfold Li.check at h
 by_cases h1:l.l.term g=0
 ·rw [if_neg (by simp [h1])] at h
  by_cases h2:l.r.term g=0
  ·exact ⟨h1,h2⟩
  ·rw [if_pos h2] at h;exact absurd h h2
 ·rw [if_pos h1] at h;exact absurd h h1
theorem RP {g:List Sy}:∀ {ts:List Tm},(∀ t∈ts,t.term g=0)→dW g ts=0
 | [],_=>rfl
 | t :: ts,h=>by rw [dW,if_pos (h t (by simp))];exact RP fun x hx=>h x (by simp [hx])
def qk (g:List Sy) (a b:Li):Int×Int:=if a.check g≠0 then (0,a.check g) else if b.check g≠0 then (0,b.check g) else (pV g (ko a) (ko b),0)
theorem Zvb (g:List Sy) (hg:tC g) (kZ:g.length<1000000) (a b:Li) (sa:rA a) (sb:rA b) (oa:a.check g=0→yS g a) (ob:b.check g=0→yS g b) :
  aJ Tryz.prog 198 [.ps 4 (syms g),a.aO,b.aO] (.dA [.int .i64 (qk g a b).1, .int .i64 (qk g a b).2]):=by
 refine aJ.begin (rs:=[.tmp 6, .tmp 7]) (m:=27) 1000 Tryz.func198 rfl rfl rfl (by decide) ⟨trivial,trivial,trivial⟩ ?_
 have c1:=KZ g a (by have:=sa.1;omega) (by have:=sa.2;omega)
 have c2:=KZ g b (by have:=sb.1;omega) (by have:=sb.2;omega)
 simp only [go_sem,kL]
 refine aq.bV [] c1 (cJ _ _ _) ⟨dK _,na _,trivial⟩ ?_
 simp only [bP,bY,bX,if_true]
 refine aK.go 1000 ?_
 by_cases h1:a.check g=0
 ·simp only [go_sem,h1]
  refine aq.bV [] c2 (cJ _ _ _) ⟨dK _,na _,trivial⟩ ?_
  simp only [bP,bY,bX,if_true]
  refine aK.go 1000 ?_
  by_cases h2:b.check g=0
  ·have hr:qk g a b=(pV g (ko a) (ko b),0):=by unfold qk;rw [if_neg (by simp [h1]),if_neg (by simp [h2])]
   have sZ:=Vn a
   have AO:=Vn b
   have jM:∀ t∈ko a++ko b,t.size<99999999∧jF g t∧t.term g=0:=fun t ht=>by
    rcases aW.1 ht with ht | ht
    ·rcases IF ht with rfl | rfl
     ·exact ⟨sa.1,(oa h1).1,(Bi h1).1⟩
     ·exact ⟨sa.2,(oa h1).2,(Bi h1).2⟩
    ·rcases IF ht with rfl | rfl
     ·exact ⟨sb.1,(ob h2).1,(Bi h2).1⟩
     ·exact ⟨sb.2,(ob h2).2,(Bi h2).2⟩
   have hm:=Ynn g hg kZ (ko a) (ko b) (by omega) (by omega) (fun t ht=>(jM t ht).1) (fun _ t ht=>(jM t ht).2.1)
   rw [RP (fun t ht=>(jM t ht).2.2),if_pos rfl] at hm
   rw [hr]
   simp only [go_sem,h2]
   refine aK.draw [] 2 2 mixed rfl rfl (by decide) ?_
   simp only [go_sem,dC]
   refine n5 (PU a) (cJ _ _ _) ⟨na _,trivial⟩ ?_
   simp only [go_sem]
   refine n5 (PU b) (cJ _ _ _) ⟨na _,trivial⟩ ?_
   simp only [go_sem]
   refine n5 hm (cJ _ _ _) ⟨dK _,bR _,bR _,trivial⟩ ?_
   simp only [go_sem]
   refine aK.go 1000 ?_
   simp only [go_sem]
  ·have hr:qk g a b=(0,b.check g):=by unfold qk;rw [if_neg (by simp [h1]),if_pos h2]
   rw [hr]
   simp only [go_sem,h2]
 ·have hr:qk g a b=(0,a.check g):=by unfold qk;rw [if_pos h1]
  rw [hr]
  simp only [go_sem,h1]
def ew (a b:Li):Bool:=decide (a.neg=b.neg)&&nk a b
def su (l:List Li) (i:Nat):List Li:=l.take i++l.drop (i+1)
def eK:List Li→List Li→List Li
 | [],_=>[]
 | t :: a,b=>if dJ (fun x=>ew t x) b 0<0 then t :: eK a b else eK a (su b (dJ (fun x=>ew t x) b 0).toNat)
def uG (t:Li):Option bE:=some (.var [.bool t.neg, .int .i64 t.l.head, .ps 2 (t.l.args.map Tm.aO), .int .i64 t.r.head, .ps 2 (t.r.args.map Tm.aO)])
def wX:Option bE:=some (.var [.fn 65 [] []])
theorem Yi8 (o1 o2 o3:Option bE) (t x:Li) (hs:bw 5 [wX,o1,o2,o3,uG t]) (ht:rA t) (hx:rA x) :
  aq Tryz.prog (.fn 214 [] [.ptr 0 0, .ptr 4 0]) [x.aO] [wX,o1,o2,o3,uG t] (fun r σ'=>r = .bool (ew t x)∧σ'=[wX,o1,o2,o3,uG t]):=by
 unfold wX uG at hs ⊢
 refine aq.begin (rs:=[.tmp 4]) (m:=6) 1000 Tryz.func214 rfl rfl rfl rfl rfl ?_
 have h:=Us t x ⟨by have:=ht.1;omega,by have:=ht.2;omega⟩ ⟨by have:=hx.1;omega,by have:=hx.2;omega⟩
 simp only [go_sem,kL]
 refine aq.bV [] h (cJ _ _ _) ⟨na _,na _,trivial⟩ ?_
 simp only [bP,bY,bX,if_true]
 refine aK.go 1000 ?_
 simp only [go_sem]
 rw [fY]
 exact ⟨[wX,o1,o2,o3,uG t],by simp [wX,uG,go_sem,TB],by simp,hs,trivial,rfl,rfl⟩
theorem U0 (a b:List Li) (xE:b≠[]) (ha:a.length<1000000) (hb:b.length<1000000) (AY:∀ t∈a,rA t) (tH:∀ t∈b,rA t):aJ Tryz.prog 196 [.ps 5 (lits a), .ps 5 (lits b), .fn 65 [] []] (.ps 5 (lits (eK a b))):=by
 refine aJ.begin (rs:=[.tmp 6]) (m:=33) 1000 Tryz.func196 rfl rfl rfl (by decide) (cz _) ?_
 simp only [go_sem]
 refine aq.td [] (HV b xE (by omega)) (cJ _ _ _) ⟨cz _,trivial⟩ ?_
 rw [jj]
 simp only [Af,Ah,Ak,xv,Am,up,cI (cz _)]
 refine aK.go 1000 ?_
 simp only [go_sem,gj]
 refine aK.im (ι:={q:Nat×List Li×List Li // q.1≤a.length∧q.2.1++eK (a.drop q.1) q.2.2=eK a b∧q.2.1.length≤q.1∧q.2.2.length≤b.length∧∀ x∈q.2.2,rA x}) 1000
  (fun q=>f_ 36 [(5, .ptr 0 0),(6, .aU),(7, .os 2 0 q.1.2.2.length 5),(8,jo 3 5 (lits q.1.2.1)),(14, .ps 5 (lits a)),(15, .int .i64 a.length),(16, .int .i64 q.1.1)])
  (fun q=>[wX,none,some (.row (lits q.1.2.2) 0),e9 (lits q.1.2.1)]) (fun q=>a.length - q.1.1) ⟨(0,[],b),by simpa using tH⟩ [] ?_ (fun _=>av _) ?_
 ·refine jb rfl ?_
  unfold wX
  simp only [go_sem,cz,cI (cz _),show lits []=[] from rfl,uW,tY]
 ·rintro ⟨⟨i,L,c⟩,hi,aQ,AE,gU,sV⟩
  simp only at hi aQ AE gU sV
  by_cases bG:(i:Int)<a.length
  ·have aZ:i<a.length:=by omega
   have hw:IntKind.i64.wrap ((i:Int)+1)=((i+1:Nat):Int):=by rw [eC (by omega)];omega
   have rZ:=tV aZ
   have rR:=AY _ (aE aZ)
   rw [ao aZ,eK] at aQ
   generalize a[i]=t at *
   have iU:bw 5 [wX,none,some (bE.row (lits c) 0),e9 (lits L),uG t]:=⟨⟨⟨trivial,trivial⟩,trivial⟩,trivial,cz c,Aa _ (cz L),⟨trivial,trivial,bR _,trivial,bR _,trivial⟩,trivial⟩
   have GN:=Rl [wX,none,some (bE.row (lits c) 0),e9 (lits L),uG t] (b:=2) (.fn 214 [] [.ptr 0 0, .ptr 4 0]) (fun x=>ew t x) c rfl (by omega) iU (by simp [go_sem]) (fun j hj=>Yi8 none _ _ t c[j] iU rR (sV _ (aE hj)))
   unfold wX uG at GN
   unfold wX
   simp only [go_sem,bG,gj,rZ,kL]
   refine ⟨by omega,?_⟩
   refine GN.mono ?_
   rintro r σ' ⟨rfl,rfl⟩
   rcases H0 (fun x=>ew t x) c 0 (by omega) with ⟨q1,_⟩ | ⟨k,q1,q2,_⟩
   ·rw [q1] at aQ ⊢
    rw [if_pos (by omega)] at aQ
    refine aK.go 1000 ?_
    simp only [go_sem,Int.reduceNeg,Int.reduceLT]
    have h2:bH [some (bE.var [.fn 65 [] []]),none,some (bE.row (lits c) 0),e9 (lits L),some (bE.var [.bool t.neg, .int .i64 t.l.head, .ps 2 (t.l.args.map Tm.aO), .int .i64 t.r.head, .ps 2 (t.r.args.map Tm.aO)]),some (bE.row [.agg [.bool t.neg, .int .i64 t.l.head, .ps 2 (t.l.args.map Tm.aO), .int .i64 t.r.head, .ps 2 (t.r.args.map Tm.aO)]] 0)] 3=e9 (lits L):=rfl
    have BX:lits [t]=[.agg [.bool t.neg, .int .i64 t.l.head, .ps 2 (t.l.args.map Tm.aO), .int .i64 t.r.head, .ps 2 (t.r.args.map Tm.aO)]]:=rfl
    have nR:=of_eq_true (Mr [t])
    rw [BX] at nR
    simp only [go_sem,vl h2,nR,gj,hw]
    refine ⟨by omega,⟨(i+1,L++[t],c),by simp only;omega,by rw [← aQ];simp,by simp only [ay,ax,aS];omega,gU,sV⟩,[(3,6),(6,3)],jb rfl ?_,by simp only;omega⟩
    have lw:bz 0 (lits (L++[t])):=cz _
    have sZ:lits (L++[t])=lits L++[.agg [.bool t.neg, .int .i64 t.l.head, .ps 2 (t.l.args.map Tm.aO), .int .i64 t.r.head, .ps 2 (t.r.args.map Tm.aO)]]:=by rw [← BX];simp [lits]
    dsimp only
    rw [sZ] at lw ⊢
    rw [Fz,FL]
    simp only [go_sem,cz,cI (cz _),cI lw,iC (av 4) lw,gj]
   ·have Dd:(0:Int)+k=k:=by omega
    rw [q2,Dd] at aQ ⊢
    rw [if_neg (by omega),cd] at aQ
    have NH:¬ (k:Int)<0:=by omega
    have EX:IntKind.i64.wrap ((k:Int)+1)=((k+1:Nat):Int):=by rw [eC (by omega)];omega
    refine aK.go 1000 ?_
    simp only [go_sem,NH,EX]
    refine aq.Ar (f:=.fn 71 [] []) (args:=[.os 0 0 c.length 5, .int .i64 k, .int .i64 ((k+1:Nat):Int)]) (B:=.row (lits c) 0) 2 rfl (cz _) ⟨trivial,trivial⟩ ⟨cq,trivial,trivial,trivial⟩ ((Kw c k q1 (by omega)).mono ?_)
    rintro r σ' ⟨rfl,rfl⟩
    refine ⟨cq,_,rfl,cz _,?_⟩
    have ym:(su c k).length=c.length - 1:=by simp only [su,ay,cY,cj];omega
    rw [show c.take k++c.drop (k+1)=su c k from rfl,← ym]
    simp only [go_sem,cW,c_]
    refine aK.go 1000 ?_
    simp only [go_sem,hw]
    refine ⟨⟨(i+1,L,su c k),by simp only;omega,aQ,by simp only;omega,by simp only;omega,fun x hx=>?_⟩,[],jb rfl ?_,by simp only;omega⟩
    ·rcases aW.1 hx with hx | hx
     ·exact sV x (lZ hx)
     ·exact sV x (List.mem_of_mem_drop hx)
    simp only [go_sem,cz,cI (cz _),Il (cz L)]
  ·have dV:i=a.length:=by omega
   subst dV
   rw [aV,eK,bq] at aQ
   unfold wX
   simp only [go_sem,bG]
   refine aK.go 1000 ?_
   simp only [go_sem]
   rw [← aQ,sn rfl rfl];trivial
def zt (g:List Sy) (a b:Li):Bool:=decide ((qk g a b).2=0)&&decide ((qk g a b).1=1)
def vz (g:List Sy):ae:=.fn 197 [] [.pp [.ps 4 (syms g)]]
@[go_sem] theorem FO {n:Nat} (g:List Sy):ae.low n (vz g)=True:=eq_true ⟨trivial,⟨⟨dK _,trivial⟩,trivial⟩⟩
@[go_sem] theorem Xbp {π:Nat→Nat} (g:List Sy):dL π (vz g)=vz g:=Ac (of_eq_true (FO g))
def pS (g:List Sy) (l:Li):Prop:=rA l∧(l.check g=0→yS g l)
theorem Zvu (g:List Sy) (hg:tC g) (kZ:g.length<1000000) (a b:Li) (ha:pS g a) (hb:pS g b) :
  aJ Tryz.prog 197 [a.aO,b.aO, .pp [.ps 4 (syms g)]] (.bool (zt g a b)):=by
 refine aJ.begin (rs:=[.tmp 5]) (m:=18) 1000 Tryz.func197 rfl rfl rfl (by decide) trivial ?_
 have h:=Zvb g hg kZ a b ha.1 hb.1 ha.2 hb.2
 unfold zt
 generalize qk g a b=z at *
 simp only [go_sem,kL]
 refine aq.bV [] h (cJ _ _ _) ⟨dK _,na _,na _,trivial⟩ ?_
 rw [jj];simp only [ite_self]
 refine aK.go 1000 ?_
 by_cases h1:z.2=0
 ·simp only [go_sem,h1,decide_true,cy]
 ·simp only [go_sem,h1,decide_false,dg]
theorem Yhi (g:List Sy) (hg:tC g) (kZ:g.length<1000000) (x y:Li) (hx:pS g x) (hy:pS g y) :
  aq Tryz.prog (.fn 217 [] [.ptr 0 0, .ptr 1 0]) [x.aO] [some (.var [vz g]),uG y] (fun r σ'=>r = .bool (zt g x y)∧σ'=[some (.var [vz g]),uG y]):=by
 unfold uG
 refine aq.begin (rs:=[.tmp 4]) (m:=6) 1000 Tryz.func217 rfl rfl rfl rfl rfl ?_
 have h:=Zvu g hg kZ x y hx hy
 simp only [go_sem,kL,vz]
 refine aq.bV [] h (cJ _ _ _) ⟨na _,na _,⟨dK _,trivial⟩,trivial⟩ ?_
 simp only [bP,bY,bX,if_true]
 refine aK.go 1000 ?_
 simp only [go_sem]
 rw [fY]
 exact ⟨[some (.var [vz g]),uG y],by simp [uG,vz,go_sem],by simp,⟨⟨of_eq_true (FO g),trivial⟩,⟨trivial,trivial,bR _,trivial,bR _,trivial⟩,trivial⟩,trivial,rfl,rfl⟩
def kB (g:List Sy) (a:List Li):List Li→Bool
 | []=>decide (0<a.length)
 | y :: b=>if a.any (fun x=>zt g x y)=true then kB g a b else false
theorem UY (g:List Sy) (hg:tC g) (kZ:g.length<1000000) (a b:List Li) (ha:a.length<1000000) (hb:b.length<1000000) (sZ:∀ x∈a,pS g x) (AO:∀ x∈b,pS g x) :
  aJ Tryz.prog 199 [.ps 5 (lits a), .ps 5 (lits b),vz g] (.bool (kB g a b)):=by
 refine aJ.begin (rs:=[.tmp 6]) (m:=20) 1000 Tryz.func199 rfl rfl rfl (by decide) trivial ?_
 have gc:(vz g).cells=[vz g]:=rfl
 have gi:(vz g).cK=true:=rfl
 simp only [go_sem,gj,gc,gi]
 refine aK.dc (ι:={i:Nat // i≤b.length∧kB g a (b.drop i)=kB g a b}) 1000 (fun q=>f_ 23 [(0, .ps 5 (lits a)),(5, .ptr 0 0),(6, .bool false),(9, .ps 5 (lits b)),(10, .int .i64 b.length),(11, .int .i64 q.1)])
  (fun _=>[some (.var [vz g])]) (fun q=>b.length - q.1) ⟨0,by simp⟩ ?_ (fun _=>av _) ?_
 ·simp only [go_sem,cz]
 ·rintro ⟨i,hi,aQ⟩
  by_cases bG:(i:Int)<b.length
  ·have aZ:i<b.length:=by omega
   have hw:IntKind.i64.wrap ((i:Int)+1)=((i+1:Nat):Int):=by rw [eC (by omega)];omega
   have rZ:=tV aZ
   have hyo:=AO _ (aE aZ)
   rw [ao aZ,kB] at aQ
   generalize b[i]=y at *
   have iU:bw 2 [some (bE.var [vz g]),uG y]:=⟨⟨of_eq_true (FO g),trivial⟩,⟨trivial,trivial,bR _,trivial,bR _,trivial⟩,trivial⟩
   have hc:=HI [some (bE.var [vz g]),uG y] (.fn 217 [] [.ptr 0 0, .ptr 1 0]) (fun x=>zt g x y) a (by omega) iU (by simp [go_sem]) (fun j hj=>Yhi g hg kZ a[j] y (sZ _ (aE hj)) hyo)
   unfold uG at hc
   simp only [go_sem,bG,gj,rZ,kL]
   refine ⟨by omega,?_⟩
   refine hc.mono ?_
   rintro r σ' ⟨rfl,rfl⟩
   cases h3:a.any (fun x=>zt g x y)
   ·rw [h3] at aQ
    simp only [a_,if_false] at aQ
    refine aK.go 1000 ?_
    simp only [go_sem]
    refine aK.go 1000 ?_
    simp only [go_sem,← aQ]
   ·rw [h3,if_pos rfl] at aQ
    refine aK.go 1000 ?_
    simp only [go_sem,hw]
    refine ⟨⟨i+1,by omega,aQ⟩,?_,by simp only;omega⟩
    simp only [go_sem,cz]
  ·have dV:i=b.length:=by omega
   subst dV
   rw [aV,kB] at aQ
   simp only [go_sem,bG]
   refine aK.go 1000 ?_
   simp only [go_sem,gj,← aQ]
   exact congrArg ae.bool (decide_eq_decide.2 (by omega))
def oY (g:List Sy) (a b:List Li):Int×Int :=
 if bf g a≠0 then (0,bf g a) else if bf g b≠0 then (0,bf g b) else
 if (eK a b).length+(eK b a).length=0 then (0,0) else if kB g (eK a b) (eK b a)=true then (1,0) else if kB g (eK b a) (eK a b)=true then (-1,0) else (2,0)
theorem H9:∀ (a b:List Li) (t:Li),t∈eK a b→t∈a
 | [],_,t,h=>by rw [eK] at h;cases h
 | x :: a,b,t,h=>by
  rw [eK] at h
  split at h
  ·rcases aR.1 h with rfl | h
   ·simp
   ·exact cu _ (H9 a b t h)
  ·exact cu _ (H9 a _ t h)
theorem Ip:∀ (a b:List Li),(eK a b).length≤a.length
 | [],_=>by rw [eK];exact ah _
 | x :: a,b=>by
  rw [eK]
  split
  ·have:=Ip a b;simp only [ax];omega
  ·have:=Ip a (su b (dJ (fun y=>ew x y) b 0).toNat);simp only [ax];omega
theorem Zw7 (g:List Sy) (hg:tC g) (kZ:g.length<1000000) (a b:List Li) (MS:a≠[]) (xE:b≠[]) (ha:a.length<500000) (hb:b.length<500000) (sZ:∀ x∈a,pS g x) (AO:∀ x∈b,pS g x) :
  aJ Tryz.prog 172 [.ps 4 (syms g), .ps 5 (lits a), .ps 5 (lits b)] (.dA [.int .i64 (oY g a b).1, .int .i64 (oY g a b).2]):=by
 refine aJ.begin (rs:=[.tmp 6, .tmp 7]) (m:=46) 1000 Tryz.func172 rfl rfl rfl (by decide) ⟨trivial,trivial,trivial⟩ ?_
 have k1:=Fu g a (fun i h=>by have:=(sZ _ (aE h)).1;exact ⟨by have:=this.1;omega,by have:=this.2;omega⟩)
 have k2:=Fu g b (fun i h=>by have:=(AO _ (aE h)).1;exact ⟨by have:=this.1;omega,by have:=this.2;omega⟩)
 simp only [go_sem]
 refine aq.bV [] k1 (cJ _ _ _) ⟨dK _,cz _,trivial⟩ ?_
 simp only [bP,bY,bX,if_true]
 refine aK.go 1000 ?_
 by_cases h1:bf g a=0
 ·simp only [go_sem,h1]
  refine aq.bV [] k2 (cJ _ _ _) ⟨dK _,cz _,trivial⟩ ?_
  simp only [bP,bY,bX,if_true]
  refine aK.go 1000 ?_
  by_cases h2:bf g b=0
  ·have hr:oY g a b=if (eK a b).length+(eK b a).length=0 then (0,0) else if kB g (eK a b) (eK b a)=true then (1,0) else if kB g (eK b a) (eK a b)=true then (-1,0) else (2,0):=by
    unfold oY;rw [if_neg (by simp [h1]),if_neg (by simp [h2])]
   have W2:∀ t∈a,rA t:=fun t ht=>(sZ t ht).1
   have W3:∀ t∈b,rA t:=fun t ht=>(AO t ht).1
   have l1:=Ip a b
   have l2:=Ip b a
   have m1:∀ t∈eK a b,pS g t:=fun t ht=>sZ t (H9 _ _ t ht)
   have m2:∀ t∈eK b a,pS g t:=fun t ht=>AO t (H9 _ _ t ht)
   have o1:=UY g hg kZ (eK a b) (eK b a) (by omega) (by omega) m1 m2
   have o2:=UY g hg kZ (eK b a) (eK a b) (by omega) (by omega) m2 m1
   rw [hr]
   simp only [go_sem,h2]
   refine aq.bV [] (U0 a b xE (by omega) (by omega) W2 W3) (cJ _ _ _) ⟨cz _,cz _,⟨trivial,trivial⟩,trivial⟩ ?_
   rw [jj];simp only [ite_self]
   refine aK.go 1000 ?_
   simp only [go_sem]
   refine aq.bV [] (U0 b a MS (by omega) (by omega) W3 W2) (cJ _ _ _) ⟨cz _,cz _,⟨trivial,trivial⟩,trivial⟩ ?_
   rw [jj];simp only [ite_self]
   generalize eK a b=x at *
   generalize eK b a=y at *
   have r7:IntKind.i64.wrap ((x.length:Int)+y.length)=((x.length+y.length:Nat):Int):=by rw [eC (by omega)];omega
   refine aK.go 1000 ?_
   by_cases h3:x.length+y.length=0
   ·rw [if_pos h3]
    have h4:((x.length+y.length:Nat):Int)=0:=by omega
    simp only [go_sem,gj,r7,h4]
   ·rw [if_neg h3]
    have h4:¬ ((x.length+y.length:Nat):Int)=0:=by omega
    simp only [go_sem,gj,r7,h4]
    refine aq.tb (b:=0) (cs:=[.ps 4 (syms g)]) [] rfl o1 (cJ _ _ _) ⟨cz _,cz _,of_eq_true (FO g),trivial⟩ rfl ?_
    refine aK.go 1000 ?_
    cases h5:kB g x y
    ·simp only [go_sem,h5]
     refine aq.tb (b:=0) (cs:=[.ps 4 (syms g)]) [] rfl o2 (cJ _ _ _) ⟨cz _,cz _,of_eq_true (FO g),trivial⟩ rfl ?_
     refine aK.go 1000 ?_
     cases h6:kB g y x
     ·simp only [go_sem,h6]
     ·simp only [go_sem,h6]
    ·simp only [go_sem,h5]
  ·have hr:oY g a b=(0,bf g b):=by unfold oY;rw [if_neg (by simp [h1]),if_pos h2]
   rw [hr]
   simp only [go_sem,h2]
 ·have hr:oY g a b=(0,bf g a):=by unfold oY;rw [if_pos h1]
  rw [hr]
  simp only [go_sem,h1]
theorem TV {P:Program} {lo:Ctx} {Q:cb→St→Prop} {k:List KI} {ops:Array Oper} {l:List Oper} {fs:List Fp} {tm:List ae} {σ m:ai} {d:Option Tmp} {g:FuncId} {first captured args args':List ae} {r:ae} {wr:List Nat} {b:Nat} {cs:List ae} (hb:bH m b=some (.var cs)) (hc:aJ P g args' r)
  (hp:kO (among []) (m.set b none) args' ((first++args++captured).map (tB b cs))) (hl:bz 0 args') (C8:bP r=true)
  (h:iD P lo Q k ops l fs (put tm d r) (dG wr 0 m σ)):sr P lo Q k ops wr d l fs tm σ m (.fn g first captured) args :=
 ⟨r,m,aq.tb [] hb hc hp hl C8 ⟨rfl,rfl⟩,zW wr m 0,h⟩
def nB (g:List Sy) (t:Tm):Bool:=decide (0≤t.head)&&((g[t.head.toNat]?).map Sy.cE).getD false
theorem T4 (g:List Sy) (t:Tm) (ht:t.head<g.length):aJ Tryz.prog 168 [t.aO, .pp [.ps 4 (syms g)]] (.bool (nB g t)):=by
 refine aJ.begin (rs:=[.tmp 3]) (m:=13) 1000 Tryz.func168 rfl rfl rfl (by decide) trivial ?_
 unfold nB
 by_cases h : 0≤t.head
 ·have hk:t.head.toNat<g.length:=by omega
  have Db:=xx hk
  have hh:((g[t.head.toNat]?).map Sy.cE).getD false=(g[t.head.toNat]).cE:=by simp [hk]
  simp only [go_sem,fJ,h,rK,Db,xu,decide_true,cy,hh]
  exact ht
 ·simp only [go_sem,fJ,h,decide_false,dg]
def nC (g:List Sy) (u:Un) (t:Tm) (m:List Bd×Bool×Int) (s:Tm×Int) (k q:Int×Int):Tm×Bool :=
 if nB g u.l≠nB g t then (t,false) else if m.2.2≠0∨m.2.1=false then (t,false) else if s.2≠0 then (t,false) else
 if k.2≠0∨k.1≠1 then (t,false) else (s.1,decide (q.2=0)&&decide (q.1 = -1))
theorem Yfy (g:List Sy) (u:Un) (t:Tm) (c:List Li) (m:List Bd×Bool×Int) (s:Tm×Int) (k q:Int×Int) (hl:u.l.head<g.length) (ht:t.head<g.length)
  (hM:aJ Tryz.prog 169 [u.l.aO,t.aO] (.dA [.ps 3 (n8 m.1), .bool m.2.1, .int .i64 m.2.2]))
  (hA:m.2.2=0→m.2.1=true→aJ Tryz.prog 170 [.ps 3 (n8 m.1),u.r.aO] (.dA [s.1.aO, .int .i64 s.2]))
  (hK:m.2.2=0→m.2.1=true→s.2=0→aJ Tryz.prog 171 [.ps 4 (syms g),t.aO,s.1.aO] (.dA [.int .i64 k.1, .int .i64 k.2]))
  (hC:m.2.2=0→m.2.1=true→s.2=0→k.2=0→k.1=1→aJ Tryz.prog 172 [.ps 4 (syms g), .ps 5 (lits [⟨false,t,s.1⟩]), .ps 5 (lits c)] (.dA [.int .i64 q.1, .int .i64 q.2])) :
  aJ Tryz.prog 141 [.ps 4 (syms g),u.aO,t.aO, .ps 5 (lits c)] (.dA [(nC g u t m s k q).1.aO, .bool (nC g u t m s k q).2]):=by
 refine aJ.begin (rs:=[.cell 8 70, .tmp 9]) (m:=80) 1000 Tryz.func141 rfl rfl rfl (by decide) ⟨dH _,trivial,trivial⟩ ?_
 have t1:=T4 g u.l hl
 have t2:=T4 g t ht
 have e1:tB 0 [.ps 4 (syms g)] (.ptr 0 0) = .pp [.ps 4 (syms g)]:=by simp [tB,yb]
 simp only [go_sem,Ek,fJ]
 refine aK.draw [] 4 4 mixed rfl rfl (by decide) ?_
 simp only [go_sem,dC]
 refine TV (b:=0) (cs:=[.ps 4 (syms g)]) rfl t1 (by simp only [dh];exact cJ _ _ _) ⟨dH _,⟨dK _,trivial⟩,trivial⟩ rfl ?_
 simp only [go_sem]
 refine TV (b:=0) (cs:=[.ps 4 (syms g)]) rfl t2 (by simp only [dh];exact cJ _ _ _) ⟨dH _,⟨dK _,trivial⟩,trivial⟩ rfl ?_
 obtain ⟨z,hz⟩:∃ z,nC g u t m s k q=z:=⟨_,rfl⟩
 rw [hz]
 unfold nC at hz
 generalize nB g u.l=p1 at *
 generalize nB g t=p2 at *
 by_cases hp:p1=p2
 ·subst hp
  rw [if_neg (by simp)] at hz
  have NP:(p1==p1)=true:=by simp
  simp only [go_sem,NP]
  refine aK.go 1000 ?_
  simp only [go_sem]
  refine aq.bV [] hM (by simp only [dh];exact cJ _ _ _) ⟨dH _,dH _,trivial⟩ ?_
  rw [jj];simp only [ite_self]
  refine aK.go 1000 ?_
  by_cases c1:m.2.2=0
  ·cases c2:m.2.1 with
   | false =>
    rw [if_pos (.inr c2)] at hz
    subst hz
    simp only [go_sem,c1]
    rw [dh]
    exact cJ _ _ _
   | true =>
    rw [if_neg (by simp [c1,c2])] at hz
    simp only [go_sem,c1]
    refine aq.bV [] (hA c1 c2) (by simp only [dh];exact cJ _ _ _) ⟨of_eq_true (Ev _),dH _,trivial⟩ ?_
    rw [jj];simp only [ite_self]
    refine aK.go 1000 ?_
    by_cases c3:s.2=0
    ·rw [if_neg (by simp [c3])] at hz
     simp only [go_sem,c3,fJ]
     refine aq.bV [] (hK c1 c2 c3) (by simp only [dh];exact cJ _ _ _) ⟨dK _,dH _,dH _,trivial⟩ ?_
     rw [jj];simp only [ite_self]
     refine aK.go 1000 ?_
     by_cases c4:k.2=0
     ·by_cases c5:k.1=1
      ·rw [if_neg (by simp [c4,c5])] at hz
       subst hz
       simp only [go_sem,c4,c5]
       refine aq.bV [5] (hC c1 c2 c3 c4 c5) ?_ ⟨dK _,cz _,cz _,trivial⟩ ?_
       ·simp only [go_sem,lits,aB,aP]
        exact wm _ _ (.agg _)
       rw [show bP (ae.dA [.int .i64 q.1, .int .i64 q.2])=true from rfl]
       simp only [if_true]
       refine aK.go 1000 ?_
       by_cases c6:q.2=0
       ·simp only [go_sem,c6,decide_true,cy,fJ]
        rw [dh]
        exact cJ _ _ _
       ·simp only [go_sem,c6,decide_false,dg,fJ]
        rw [dh]
        exact cJ _ _ _
      ·rw [if_pos (.inr c5)] at hz
       subst hz
       simp only [go_sem,c4,c5]
       rw [dh]
       exact cJ _ _ _
     ·rw [if_pos (.inl c4)] at hz
      subst hz
      simp only [go_sem,c4]
      rw [dh]
      exact cJ _ _ _
    ·rw [if_pos c3] at hz
     subst hz
     simp only [go_sem,c3,fJ]
     rw [dh]
     exact cJ _ _ _
  ·rw [if_pos (.inl c1)] at hz
   subst hz
   simp only [go_sem,c1]
   rw [dh]
   exact cJ _ _ _
 ·rw [if_pos hp] at hz
  subst hz
  have NP:(p1==p2)=false:=by simpa using hp
  simp only [go_sem,NP]
  refine aK.go 1000 ?_
  simp only [go_sem,dh]
end Go.Proofs
namespace Go.Proofs
open Go Go.c8
theorem Yno {g:List Sy} {h:Int} (h0 : 0≤h) (h1:h<g.length):Aq g h=(lL g h).arity:=by
 have hk:h.toNat<g.length:=by omega
 simp [Aq,lL,List.getD,hk]
mutual
theorem T0 (g:List Sy):∀ t:Tm,t.good=true→t.known g=true→t.B2 g∧t.CJ g
 | .mk h ts,hg,hk=>by
  rw [Tm.good] at hg
  rw [Tm.known] at hk
  simp only [aC,bU,ct,b9,decide_eq_true_eq,decide_eq_false_iff_not,fb] at hg hk
  rw [Tm.B2,Tm.CJ]
  by_cases hn:h<0
  ·have rR:ts=[]:=by
    have:=hg.1.1.1.1
    rcases this with h1 | h1
    ·exact absurd hn h1
    ·exact aY (by omega)
   subst rR
   exact ⟨⟨by omega,trivial⟩,fun h0=>by omega,trivial⟩
  ·rcases hk with hk | ⟨⟨k1,k2⟩,k3⟩
   ·exact absurd hk hn
   ·obtain ⟨a1,a2⟩:=RY g ts hg.2 k3
    exact ⟨⟨by omega,a1⟩,fun h0=>by rw [Yno h0 (by omega)];exact k2,a2⟩
theorem RY (g:List Sy):∀ ts:List Tm,Tm.eH ts=true→Tm.gW g ts=true→Tm.yP g ts∧Tm.xU g ts
 | [],_,_=>⟨trivial,trivial⟩
 | t :: ts,hg,hk=>by
  rw [Tm.eH] at hg
  rw [Tm.gW] at hk
  simp only [aC] at hg hk
  obtain ⟨a1,a2⟩:=T0 g t hg.1 hk.1
  obtain ⟨b1,b2⟩:=RY g ts hg.2 hk.2
  exact ⟨⟨a1,b1⟩,a2,b2⟩
end
theorem p7 {t:Tm} (h:t.check=0):t.size≤400∧t.depth≤40∧t.good=true:=by
 unfold Tm.check at h
 by_cases h1 : 400<t.size
 ·rw [if_pos h1] at h;cases h
 ·rw [if_neg h1] at h
  by_cases h2 : 40<t.depth
  ·rw [if_pos h2] at h;cases h
  ·rw [if_neg h2] at h
   cases h3:t.good with
   | false=>rw [h3] at h;simp at h
   | true=>exact ⟨by omega,by omega,rfl⟩
theorem Ig {g:List Sy} {t:Tm} (h:t.term g=0) (hf:t.fit):jF g t:=by
 obtain ⟨h1,h2,_⟩:=mW h
 obtain ⟨c1,_,c3⟩:=p7 h1
 obtain ⟨a1,a2⟩:=T0 g t c3 h2
 exact ⟨by omega,a1,a2,hf⟩
theorem Ymd (bs:List Bd) (N:Nat) (hN : 1≤N) (hb:∀ b∈bs,b.t.size≤N):∀ t:Tm,t.head<0→t.args=[]→(t.sub bs).size≤N
 | .mk h ts,h0,h1=>by
  rw [PG h0,qb]
  cases hf:bs.find? (fun b=>b.v == -1 - (Tm.mk h ts).head) with
  | some b=>exact hb b (bJ hf)
  | none =>
   simp only [iN,eB]
   rw [oM,h1];simp [Tm.bF];omega
mutual
theorem K3 (bs:List Bd) (N:Nat) (hN : 1≤N) (hb:∀ b∈bs,b.t.size≤N):∀ t:Tm,t.good=true→(t.sub bs).size≤t.size*N
 | .mk h ts,hg=>by
  rw [Tm.good] at hg
  simp only [aC,bU,ct,decide_eq_false_iff_not,fb] at hg
  by_cases hn:h<0
  ·have rR:ts=[]:=by
    rcases hg.1.1.1.1 with h1 | h1
    ·exact absurd hn h1
    ·exact aY (by omega)
   have:=Ymd bs N hN hb (.mk h ts) hn rR
   have hs:(Tm.mk h ts).size=1:=by rw [oM];simp [Tm.args,rR,Tm.bF]
   rw [hs];omega
  ·rw [Tm.sub,if_neg hn,Tm.size,Tm.size,bI]
   have:=RV bs N hN hb ts hg.2
   omega
theorem RV (bs:List Bd) (N:Nat) (hN : 1≤N) (hb:∀ b∈bs,b.t.size≤N):∀ ts:List Tm,Tm.eH ts=true→Tm.bF (Tm.sf bs ts)≤Tm.bF ts*N
 | [],_=>by simp [Tm.sf,Tm.bF]
 | t :: ts,hg=>by
  rw [Tm.eH] at hg
  simp only [aC] at hg
  rw [Tm.sf,Tm.bF,Tm.bF,bI]
  have a1:=K3 bs N hN hb t hg.1
  have a2:=RV bs N hN hb ts hg.2
  omega
end
theorem Yr8 {g:List Sy} (h:gw g=true):tC g∧g.length≤256:=by
 unfold gw at h
 simp only [aC,bU,ct,decide_eq_false_iff_not,bj,cA] at h
 obtain ⟨⟨⟨h1,h2⟩,h3⟩,_⟩:=h
 refine ⟨fun s hs=>?_,by omega⟩
 obtain ⟨i,hi,rfl⟩:=lX.1 hs
 have h4:=h3 i hi
 unfold uI at h4
 rw [FW hi] at h4
 simp only [aC,Sy.right,bU,ct,decide_eq_false_iff_not] at h4
 omega
theorem Ki {g:List Sy} {t:Tm} (h:t.term g=0):gw g=true:=by
 unfold Tm.term at h
 cases hs:gw g with
 | false=>rw [hs] at h;simp at h
 | true=>rfl
theorem Sq {g:List Sy} {l:Li} (hs:rA l) (hf:l.l.fit∧l.r.fit):pS g l:=⟨hs,fun h=>⟨Ig (Bi h).1 hf.1,Ig (Bi h).2 hf.2⟩⟩
theorem Yli {t:Tm} {i:Nat} (h:i<t.args.length) (p:List Int):t.mo ((i:Int) :: p)=(t.args[i]).mo p:=by
 rw [Tm.mo,if_neg (by omega)]
 simp [h]
mutual
theorem FN:∀ (t:Tm) (q p:List Int),p∈t.fC q→∃ p',p=q++p'∧p'.length<t.size∧∃ v,t.mo p'=some v∧v.size≤t.size
 | .mk h ts,q,p,hp=>by
  rw [Tm.fC] at hp
  rcases aR.1 hp with rfl | hp
  ·exact ⟨[],by simp,by rw [Tm.size];simp only [aS];omega,_,rfl,ah _⟩
  ·obtain ⟨j,hj,p',rfl,h1,v,h2,h3⟩:=TF ts q 0 p hp
   have h4:=tA (aE hj)
   refine ⟨((j:Int)) :: p',by simp,?_,v,?_,?_⟩
   ·rw [Tm.size];simp only [ax];omega
   ·rw [Yli (t:=.mk h ts) hj];exact h2
   ·rw [Tm.size];omega
theorem TF:∀ (ts:List Tm) (q:List Int) (i:Nat) (p:List Int),p∈Tm.iY ts q i→∃ (j:Nat) (hj:j<ts.length) (p':List Int),p=q++(((i+j:Nat):Int) :: p')∧p'.length<(ts[j]).size∧∃ v,(ts[j]).mo p'=some v∧v.size≤(ts[j]).size
 | [],_,_,p,hp=>by rw [Tm.iY] at hp;cases hp
 | t :: ts,q,i,p,hp=>by
  rw [Tm.iY] at hp
  rcases aW.1 hp with hp | hp
  ·obtain ⟨p',rfl,h1,v,h2,h3⟩:=FN t _ p hp
   exact ⟨0,by simp,p',by simp,h1,v,h2,h3⟩
  ·obtain ⟨j,hj,p',rfl,h1,v,h2,h3⟩:=TF ts q (i+1) p hp
   exact ⟨j+1,by simpa using hj,p',by rw [show i+1+j=i+(j+1) by omega],by simpa using h1,v,by simpa using h2,by simpa using h3⟩
end
end Go.Proofs
namespace Go.Proofs
open Go Go.c8
attribute [local go_sem] Nat.reduceAdd Nat.reduceSub Nat.reduceMul Nat.reduceLeDiff Nat.reduceEqDiff Nat.reduceBEq Nat.reduceLT Nat.le_refl Int.natCast_zero Nat.sub_zero List.length_map Int.toNat_natCast Int.natCast_one Int.reduceEq Int.reduceLT Int.reduceLE Int.reduceNe Int.sub_zero Int.zero_add Int.toNat_one
def cO (i:Nat) (rt:Bool) (t:Tm):List ln:=(t.fC []).map fun p=>⟨(i:Int),rt,p,(t.mo p).getD fI⟩
def kh (i:Nat) (l:Li):List ln:=cO i false l.l++cO i true l.r
def cr:List Li→Nat→List ln
 | [],_=>[]
 | l :: c,i=>kh i l++cr c (i+1)
theorem Yfc (c:List Li) (σ:ai) (hs:bw σ.length σ):aq Tryz.prog (.fn 140 [] []) [.ps 5 (lits c)] σ
  (fun r σ'=>r = .fn 165 [] [.ptr σ.length 0]∧σ' = σ++[some (.var [.ps 5 (lits c)])]):=by
 refine aq.begin (rs:=[.tmp 2]) (m:=3) 1000 Tryz.func140 rfl rfl rfl rfl rfl ?_
 simp only [go_sem]
 rw [Bu,fY]
 exact ⟨_,fN _,by simp,py (nL (by simp) hs) ⟨⟨cz _,trivial⟩,trivial⟩,by simp [go_sem],rfl,rfl⟩
def ry (i:Nat) (l:Li) (j:Nat) (R:List ln):List ln:=if j=0 then cO i false l.l++(cO i true l.r++R) else if j=1 then cO i true l.r++R else R
theorem Au {N:Nat} {l:List ae} (h:bz N l):oW 9 9 l:=fun ρ dO=>qx ρ N (fun b _=>dO b (by omega)) l h
theorem Av {N:Nat} {τ:ai} (h:bw N τ):ub 9 9 τ:=fun ρ dO x hx=>by
 obtain ⟨i,hi⟩:=List.mem_iff_getElem?.1 hx
 exact Bv ρ N (fun b _=>dO b (by omega)) x (qL h i x hi)
theorem T7 (c:List Li) (gU:c.length<1000000) (hc:∀ l∈c,l.l.size≤400∧l.r.size≤400) (b0 b1 b2 b3 b4 b5 b6 b8:Option bE) (E:ai) (k0:Nat) (w7:E.length=9) (BG:bw 9 E)
  (hs:bw 9 [b0,b1,b2,b3,b4,b5,b6,some (.var [.ps 5 (lits c)]),b8])
  (hy:∀ k (h:k<(cr c 0).length),k<k0→aq Tryz.prog (.lz 8) [(cr c 0)[k].aO] [b0,b1,b2,b3,b4,b5,b6,some (.var [.ps 5 (lits c)]),b8] (fun r σ'=>r = .bool true∧σ'=[b0,b1,b2,b3,b4,b5,b6,some (.var [.ps 5 (lits c)]),b8]))
  (hE:∀ h:k0<(cr c 0).length,aq Tryz.prog (.lz 8) [(cr c 0)[k0].aO] [b0,b1,b2,b3,b4,b5,b6,some (.var [.ps 5 (lits c)]),b8] (fun r σ'=>r = .bool false∧σ'=E)) :
  aq Tryz.prog (.fn 165 [] [.ptr 7 0]) [.lz 8] [b0,b1,b2,b3,b4,b5,b6,some (.var [.ps 5 (lits c)]),b8] (fun _ σ'=>σ'=if k0<(cr c 0).length then E else [b0,b1,b2,b3,b4,b5,b6,some (.var [.ps 5 (lits c)]),b8]):=by
 refine aq.begin (rs:=[]) (m:=52) 1000 Tryz.func165 rfl rfl rfl rfl rfl ?_
 obtain ⟨SP,Wj⟩:∃ SP,cr c 0=SP:=⟨_,rfl⟩
 simp only [Wj] at hy hE ⊢
 simp only [go_sem,gj]
 refine aK.dc (ι:={q:Nat×Nat // q.1≤c.length∧q.2≤k0∧SP.drop q.2=cr (c.drop q.1) q.1}) 1000
  (fun q=>f_ 54 [(0, .lz 8),(11, .ps 5 (lits c)),(12, .int .i64 c.length),(13, .int .i64 q.1.1)]) (fun _=>[b0,b1,b2,b3,b4,b5,b6,some (.var [.ps 5 (lits c)]),b8]) (fun q=>c.length - q.1.1) ⟨(0,0),by simp [Wj]⟩ ?_ (fun _=>ah _) ?_
 ·simp only [go_sem,cz]
  exact hs
 ·rintro ⟨⟨i,k⟩,hi,hk,aQ⟩
  simp only at hi hk aQ
  by_cases bG:(i:Int)<c.length
  ·have aZ:i<c.length:=by omega
   have hw:IntKind.i64.wrap ((i:Int)+1)=((i+1:Nat):Int):=by rw [eC (by omega)];omega
   have rZ:=tV aZ
   have hls:=hc _ (aE aZ)
   rw [ao aZ,cr,kh,cx] at aQ
   generalize c[i]=l at *
   simp only [go_sem,bG,gj,rZ,kL]
   refine ⟨by omega,?_⟩
   obtain ⟨R,hR⟩:∃ R,cr (c.drop (i+1)) (i+1)=R:=⟨_,rfl⟩
   rw [hR] at aQ
   have lq:((2:Nat):Int)=2:=rfl
   refine aK.dc (ι:={q:Nat×Nat // q.1≤2∧q.2≤k0∧SP.drop q.2=ry i l q.1 R}) 1000
    (fun q=>f_ 54 [(0, .lz 8),(3, .int .i64 i),(11, .ps 5 (lits c)),(12, .int .i64 c.length),(13, .int .i64 i),(22, .os 10 0 2 2),(23, .int .i64 ((2:Nat):Int)),(24, .int .i64 q.1.1)])
    (fun _=>[b0,b1,b2,b3,b4,b5,b6,some (.var [.ps 5 (lits c)]),b8,none,some (.row [.agg [.int .i64 l.l.head, .ps 2 (l.l.args.map Tm.aO)], .agg [.int .i64 l.r.head, .ps 2 (l.r.args.map Tm.aO)]] 0)]) (fun q=>2 - q.1.1) ⟨(0,k),by simp only [ry,if_true];exact ⟨by omega,hk,aQ⟩⟩ ?_ (fun _=>by simp) ?_
   ·have zF:=nL (show 9≤11 by decide) hs
    simp only [go_sem,cz,bR]
    exact py zF ⟨trivial,⟨⟨trivial,bR _,trivial⟩,⟨trivial,bR _,trivial⟩,trivial⟩,trivial⟩
   ·rintro ⟨⟨j,k'⟩,hj,eE,rh⟩
    simp only at hj eE rh
    have anQ:∀ (j:Nat) (rt:Bool) (t:Tm) (T:List ln),True:=fun _ _ _ _=>trivial
    obtain rfl | rfl | rfl:j=0∨j=1∨j=2:=by omega
    ·simp only [ry,if_true] at rh
     have e8:=Qk l.l (by omega)
     simp only [go_sem,lq,bm]
     refine aq.bV [] (e8) (by (try simp only [dh]);exact cJ _ _ _) (by simp [go_sem,dH,bR]) ?_;rw [jj];simp only [ite_self];refine aK.go 1000 ?_
     simp only [go_sem,Ex,zh]
     refine aK.dc (ι:={q:Nat×Nat // q.1≤l.l.size∧q.2≤k0∧SP.drop q.2=(cO i false l.l).drop q.1++(cO i true l.r++R)}) 1000
      (fun q=>f_ 54 [(0, .lz 8),(3, .int .i64 i),(5, .int .i64 0),(6, .ptr 11 0),(11, .ps 5 (lits c)),(12, .int .i64 c.length),(13, .int .i64 i),(22, .os 10 0 2 2),(23, .int .i64 ((2:Nat):Int)),(24, .int .i64 0),(30, .ps 1 (oR (l.l.fC []))),(31, .int .i64 l.l.size),(32, .int .i64 q.1.1)])
      (fun _=>[b0,b1,b2,b3,b4,b5,b6,some (.var [.ps 5 (lits c)]),b8,none,some (.row [.agg [.int .i64 l.l.head, .ps 2 (l.l.args.map Tm.aO)], .agg [.int .i64 l.r.head, .ps 2 (l.r.args.map Tm.aO)]] 0),some (.var [.int .i64 l.l.head, .ps 2 (l.l.args.map Tm.aO)])]) (fun q=>l.l.size - q.1.1) ⟨(0,k'),by simp only [dn];exact ⟨av _,eE,rh⟩⟩ ?_ (fun _=>by simp) ?_
     ·have NW:=nL (show 9≤12 by decide) hs
      simp only [go_sem,cz,bR,wU,lq]
      exact py NW ⟨trivial,⟨⟨trivial,bR _,trivial⟩,⟨trivial,bR _,trivial⟩,trivial⟩,⟨trivial,bR _,trivial⟩,trivial⟩
     ·rintro ⟨⟨n,k2⟩,hn,qY,kf⟩
      simp only at hn qY kf
      by_cases pf:(n:Int)<l.l.size
      ·have Dm:n<(l.l.fC []).length:=by rw [zh];omega
       have r8:IntKind.i64.wrap ((n:Int)+1)=((n+1:Nat):Int):=by rw [eC (by omega)];omega
       have GM:(oR (l.l.fC [])).getD n .undef = .ps 1 (ints (l.l.fC [])[n]):=n6 Dm
       obtain ⟨p',yD,hp2,v,hv,mB⟩:=FN l.l [] _ (aE Dm)
       have Hd:n<(cO i false l.l).length:=by simp only [cO,ak];exact Dm
       have Dw:(cO i false l.l)[n]=⟨(i:Int),false,(l.l.fC [])[n],(l.l.mo (l.l.fC [])[n]).getD fI⟩:=by simp [cO]
       rw [bh] at yD
       rw [ao Hd,Dw,yD,hv,br] at kf
       rw [yD] at GM
       have lj:=JV l.l p' (by omega) (by omega)
       rw [hv,br] at lj
       simp only [go_sem,pf,Ex,zh,GM,av]
       refine ⟨by omega,?_⟩
       refine aq.bV [] (lj) (by (try simp only [dh]);exact cJ _ _ _) (by simp [go_sem,dH,bR,dB]) ?_;rw [jj];simp only [ite_self];refine aK.go 1000 ?_
       simp only [go_sem,fJ,Int.reduceEq]
       have AJ:k2<SP.length:=by
        have:=congrArg List.length kf
        simp only [cj,bn,ax] at this;omega
       rw [ao AJ,bn] at kf
       obtain ⟨e1,e2⟩:=j9 kf
       have yO:bw 13 [none,some (bE.row [.agg [.int .i64 l.l.head, .ps 2 (l.l.args.map Tm.aO)], .agg [.int .i64 l.r.head, .ps 2 (l.r.args.map Tm.aO)]] 0),some (bE.var [.int .i64 l.l.head, .ps 2 (l.l.args.map Tm.aO)]),some (bE.var [.int .i64 v.head, .ps 2 (v.args.map Tm.aO)])] :=
        ⟨trivial,⟨⟨trivial,bR _,trivial⟩,⟨trivial,bR _,trivial⟩,trivial⟩,⟨trivial,bR _,trivial⟩,⟨trivial,bR _,trivial⟩,trivial⟩
       by_cases sY:k2<k0
       ·have wE:=hy k2 AJ sY
        rw [e1] at wE
        refine aK.qO (σ:=[b0,b1,b2,b3,b4,b5,b6,some (.var [.ps 5 (lits c)]),b8]) (τ:=[none,some (bE.row [.agg [.int .i64 l.l.head, .ps 2 (l.l.args.map Tm.aO)], .agg [.int .i64 l.r.head, .ps 2 (l.r.args.map Tm.aO)]] 0),some (bE.var [.int .i64 l.l.head, .ps 2 (l.l.args.map Tm.aO)]),some (bE.var [.int .i64 v.head, .ps 2 (v.args.map Tm.aO)])]) (.bool true) trivial (ah 9) ?_ ?_ hs (Au (N:=13) ?_) (Av yO) ?_ yO ?_
        ·exact cG 8
        ·exact ⟨⟨trivial,trivial,dB _,trivial,bR _,trivial⟩,trivial⟩
        ·simp [go_sem,cz,bR,dB,dH,wU]
        ·simp [go_sem,cz,bR,dB,dH,wU]
        refine wE.mono ?_
        rintro r σ' ⟨rfl,rfl⟩
        refine ⟨rfl,ah _,hs,fun b=>b,[b0,b1,b2,b3,b4,b5,b6,some (.var [.ps 5 (lits c)]),b8],rfl,fun _ _=>rfl,fun _ _ _ _ e=>e,?_,hs,?_⟩
        ·have:=z7 (π:=fun b=>b) (B:=[b0,b1,b2,b3,b4,b5,b6,some (.var [.ps 5 (lits c)]),b8]) (own:=[]) (τ:=[]) hs (fun _ _=>rfl) trivial
         simpa using this
        ·refine aK.go 1000 ?_
         simp only [go_sem]
         refine ⟨⟨(n+1,k2+1),by simp only;omega,by simp only;omega,by simp only;exact e2⟩,⟨by rw [r8],cz _,py (nL (show 9≤12 by decide) hs) ⟨trivial,⟨⟨trivial,bR _,trivial⟩,⟨trivial,bR _,trivial⟩,trivial⟩,⟨trivial,bR _,trivial⟩,trivial⟩⟩,by simp only;omega⟩
       ·have Nq:k2=k0:=by omega
        subst Nq
        have wE:=hE AJ
        rw [e1] at wE
        refine aK.qO (σ:=[b0,b1,b2,b3,b4,b5,b6,some (.var [.ps 5 (lits c)]),b8]) (τ:=[none,some (bE.row [.agg [.int .i64 l.l.head, .ps 2 (l.l.args.map Tm.aO)], .agg [.int .i64 l.r.head, .ps 2 (l.r.args.map Tm.aO)]] 0),some (bE.var [.int .i64 l.l.head, .ps 2 (l.l.args.map Tm.aO)]),some (bE.var [.int .i64 v.head, .ps 2 (v.args.map Tm.aO)])]) (.bool false) trivial (ah 9) ?_ ?_ hs (Au (N:=13) ?_) (Av yO) ?_ yO ?_
        ·exact cG 8
        ·exact ⟨⟨trivial,trivial,dB _,trivial,bR _,trivial⟩,trivial⟩
        ·simp [go_sem,cz,bR,dB,dH,wU]
        ·simp [go_sem,cz,bR,dB,dH,wU]
        refine wE.mono ?_
        rintro r σ' ⟨rfl,rfl⟩
        refine ⟨rfl,by rw [w7];exact ah _,by rw [w7];exact BG,fun b=>b,σ',by rw [w7];rfl,fun _ _=>rfl,fun _ _ _ _ e=>e,?_,BG,?_⟩
        ·have:=z7 (π:=fun b=>b) (B:=σ') (own:=[]) (τ:=[]) (by rw [w7];exact BG) (fun _ _=>rfl) trivial
         simpa using this
        ·rw [if_pos AJ]
         refine aK.go 1000 ?_
         simp only [go_sem]
         refine aK.go 1000 ?_
         simp only [go_sem]
         refine aK.go 1000 ?_
         simp only [go_sem]
         refine aK.go 1000 ?_
         simp only [go_sem]
         rw [fY]
         exact ⟨σ',IU _ _,by rw [w7];exact ah _,by rw [w7];exact BG,trivial,rfl⟩
      ·have AU:n=l.l.size:=by omega
       have yF:(cO i false l.l).length=l.l.size:=by simp only [cO,ak];exact zh _ _
       have e0:(cO i false l.l).drop n=[]:=fW (by omega)
       rw [e0,bh] at kf
       simp only [go_sem,pf]
       refine aK.go 1000 ?_
       simp only [go_sem]
       refine ⟨⟨(1,k2),by simp only;omega,qY,by simp only [ry];simpa using kf⟩,?_,by simp only;omega⟩
       exact ⟨⟨rfl,rfl⟩,cz _,py (nL (show 9≤11 by decide) hs) ⟨trivial,⟨⟨trivial,bR _,trivial⟩,⟨trivial,bR _,trivial⟩,trivial⟩,trivial⟩⟩
    ·have rh:SP.drop k'=cO i true l.r++R:=by simpa [ry] using rh
     have e8:=Qk l.r (by omega)
     simp only [go_sem,lq,bm,bC]
     refine aq.bV [] (e8) (by (try simp only [dh]);exact cJ _ _ _) (by simp [go_sem,dH,bR]) ?_;rw [jj];simp only [ite_self];refine aK.go 1000 ?_
     simp only [go_sem,Ex,zh]
     refine aK.dc (ι:={q:Nat×Nat // q.1≤l.r.size∧q.2≤k0∧SP.drop q.2=(cO i true l.r).drop q.1++R}) 1000
      (fun q=>f_ 54 [(0, .lz 8),(3, .int .i64 i),(5, .int .i64 1),(6, .ptr 11 0),(11, .ps 5 (lits c)),(12, .int .i64 c.length),(13, .int .i64 i),(22, .os 10 0 2 2),(23, .int .i64 ((2:Nat):Int)),(24, .int .i64 1),(30, .ps 1 (oR (l.r.fC []))),(31, .int .i64 l.r.size),(32, .int .i64 q.1.1)])
      (fun _=>[b0,b1,b2,b3,b4,b5,b6,some (.var [.ps 5 (lits c)]),b8,none,some (.row [.agg [.int .i64 l.l.head, .ps 2 (l.l.args.map Tm.aO)], .agg [.int .i64 l.r.head, .ps 2 (l.r.args.map Tm.aO)]] 0),some (.var [.int .i64 l.r.head, .ps 2 (l.r.args.map Tm.aO)])]) (fun q=>l.r.size - q.1.1) ⟨(0,k'),by simp only [dn];exact ⟨av _,eE,rh⟩⟩ ?_ (fun _=>by simp) ?_
     ·have NW:=nL (show 9≤12 by decide) hs
      simp only [go_sem,cz,bR,wU,lq]
      exact py NW ⟨trivial,⟨⟨trivial,bR _,trivial⟩,⟨trivial,bR _,trivial⟩,trivial⟩,⟨trivial,bR _,trivial⟩,trivial⟩
     ·rintro ⟨⟨n,k2⟩,hn,qY,kf⟩
      simp only at hn qY kf
      by_cases pf:(n:Int)<l.r.size
      ·have Dm:n<(l.r.fC []).length:=by rw [zh];omega
       have r8:IntKind.i64.wrap ((n:Int)+1)=((n+1:Nat):Int):=by rw [eC (by omega)];omega
       have GM:(oR (l.r.fC [])).getD n .undef = .ps 1 (ints (l.r.fC [])[n]):=n6 Dm
       obtain ⟨p',yD,hp2,v,hv,mB⟩:=FN l.r [] _ (aE Dm)
       have Hd:n<(cO i true l.r).length:=by simp only [cO,ak];exact Dm
       have Dw:(cO i true l.r)[n]=⟨(i:Int),true,(l.r.fC [])[n],(l.r.mo (l.r.fC [])[n]).getD fI⟩:=by simp [cO]
       rw [bh] at yD
       rw [ao Hd,Dw,yD,hv,br] at kf
       rw [yD] at GM
       have lj:=JV l.r p' (by omega) (by omega)
       rw [hv,br] at lj
       simp only [go_sem,pf,Ex,zh,GM,av]
       refine ⟨by omega,?_⟩
       refine aq.bV [] (lj) (by (try simp only [dh]);exact cJ _ _ _) (by simp [go_sem,dH,bR,dB]) ?_;rw [jj];simp only [ite_self];refine aK.go 1000 ?_
       simp only [go_sem,fJ,Int.reduceEq]
       have AJ:k2<SP.length:=by
        have:=congrArg List.length kf
        simp only [cj,bn,ax] at this;omega
       rw [ao AJ,bn] at kf
       obtain ⟨e1,e2⟩:=j9 kf
       have yO:bw 13 [none,some (bE.row [.agg [.int .i64 l.l.head, .ps 2 (l.l.args.map Tm.aO)], .agg [.int .i64 l.r.head, .ps 2 (l.r.args.map Tm.aO)]] 0),some (bE.var [.int .i64 l.r.head, .ps 2 (l.r.args.map Tm.aO)]),some (bE.var [.int .i64 v.head, .ps 2 (v.args.map Tm.aO)])] :=
        ⟨trivial,⟨⟨trivial,bR _,trivial⟩,⟨trivial,bR _,trivial⟩,trivial⟩,⟨trivial,bR _,trivial⟩,⟨trivial,bR _,trivial⟩,trivial⟩
       by_cases sY:k2<k0
       ·have wE:=hy k2 AJ sY
        rw [e1] at wE
        refine aK.qO (σ:=[b0,b1,b2,b3,b4,b5,b6,some (.var [.ps 5 (lits c)]),b8]) (τ:=[none,some (bE.row [.agg [.int .i64 l.l.head, .ps 2 (l.l.args.map Tm.aO)], .agg [.int .i64 l.r.head, .ps 2 (l.r.args.map Tm.aO)]] 0),some (bE.var [.int .i64 l.r.head, .ps 2 (l.r.args.map Tm.aO)]),some (bE.var [.int .i64 v.head, .ps 2 (v.args.map Tm.aO)])]) (.bool true) trivial (ah 9) ?_ ?_ hs (Au (N:=13) ?_) (Av yO) ?_ yO ?_
        ·exact cG 8
        ·exact ⟨⟨trivial,trivial,dB _,trivial,bR _,trivial⟩,trivial⟩
        ·simp [go_sem,cz,bR,dB,dH,wU]
        ·simp [go_sem,cz,bR,dB,dH,wU]
        refine wE.mono ?_
        rintro r σ' ⟨rfl,rfl⟩
        refine ⟨rfl,ah _,hs,fun b=>b,[b0,b1,b2,b3,b4,b5,b6,some (.var [.ps 5 (lits c)]),b8],rfl,fun _ _=>rfl,fun _ _ _ _ e=>e,?_,hs,?_⟩
        ·have:=z7 (π:=fun b=>b) (B:=[b0,b1,b2,b3,b4,b5,b6,some (.var [.ps 5 (lits c)]),b8]) (own:=[]) (τ:=[]) hs (fun _ _=>rfl) trivial
         simpa using this
        ·refine aK.go 1000 ?_
         simp only [go_sem]
         refine ⟨⟨(n+1,k2+1),by simp only;omega,by simp only;omega,by simp only;exact e2⟩,⟨by rw [r8],cz _,py (nL (show 9≤12 by decide) hs) ⟨trivial,⟨⟨trivial,bR _,trivial⟩,⟨trivial,bR _,trivial⟩,trivial⟩,⟨trivial,bR _,trivial⟩,trivial⟩⟩,by simp only;omega⟩
       ·have Nq:k2=k0:=by omega
        subst Nq
        have wE:=hE AJ
        rw [e1] at wE
        refine aK.qO (σ:=[b0,b1,b2,b3,b4,b5,b6,some (.var [.ps 5 (lits c)]),b8]) (τ:=[none,some (bE.row [.agg [.int .i64 l.l.head, .ps 2 (l.l.args.map Tm.aO)], .agg [.int .i64 l.r.head, .ps 2 (l.r.args.map Tm.aO)]] 0),some (bE.var [.int .i64 l.r.head, .ps 2 (l.r.args.map Tm.aO)]),some (bE.var [.int .i64 v.head, .ps 2 (v.args.map Tm.aO)])]) (.bool false) trivial (ah 9) ?_ ?_ hs (Au (N:=13) ?_) (Av yO) ?_ yO ?_
        ·exact cG 8
        ·exact ⟨⟨trivial,trivial,dB _,trivial,bR _,trivial⟩,trivial⟩
        ·simp [go_sem,cz,bR,dB,dH,wU]
        ·simp [go_sem,cz,bR,dB,dH,wU]
        refine wE.mono ?_
        rintro r σ' ⟨rfl,rfl⟩
        refine ⟨rfl,by rw [w7];exact ah _,by rw [w7];exact BG,fun b=>b,σ',by rw [w7];rfl,fun _ _=>rfl,fun _ _ _ _ e=>e,?_,BG,?_⟩
        ·have:=z7 (π:=fun b=>b) (B:=σ') (own:=[]) (τ:=[]) (by rw [w7];exact BG) (fun _ _=>rfl) trivial
         simpa using this
        ·rw [if_pos AJ]
         refine aK.go 1000 ?_
         simp only [go_sem]
         refine aK.go 1000 ?_
         simp only [go_sem]
         refine aK.go 1000 ?_
         simp only [go_sem]
         refine aK.go 1000 ?_
         simp only [go_sem]
         rw [fY]
         exact ⟨σ',IU _ _,by rw [w7];exact ah _,by rw [w7];exact BG,trivial,rfl⟩
      ·have AU:n=l.r.size:=by omega
       have yF:(cO i true l.r).length=l.r.size:=by simp only [cO,ak];exact zh _ _
       have e0:(cO i true l.r).drop n=[]:=fW (by omega)
       rw [e0,bh] at kf
       simp only [go_sem,pf]
       refine aK.go 1000 ?_
       simp only [go_sem]
       refine ⟨⟨(2,k2),by simp only;omega,qY,by simp only [ry];simpa using kf⟩,?_,by simp only;omega⟩
       exact ⟨⟨rfl,by first | rfl | exact congrArg (ae.int .i64) (eC (n:=1+1) (by omega)).symm⟩,cz _,py (nL (show 9≤11 by decide) hs) ⟨trivial,⟨⟨trivial,bR _,trivial⟩,⟨trivial,bR _,trivial⟩,trivial⟩,trivial⟩⟩
    ·have kf:SP.drop k'=R:=by simpa [ry] using rh
     simp only [go_sem,lq,lW]
     refine aK.go 1000 ?_
     simp only [go_sem,hw]
     refine ⟨⟨(i+1,k'),by simp only;omega,eE,by simp only;rw [kf,hR]⟩,?_,by simp only;omega⟩
     simp only [go_sem,cz]
     exact hs
  ·have dV:i=c.length:=by omega
   subst dV
   rw [aV,cr] at aQ
   have hkl:¬ k0<SP.length:=by have:=List.drop_eq_nil_iff.1 aQ;omega
   rw [if_neg hkl]
   simp only [go_sem,bG]
   refine aK.go 1000 ?_
   simp only [go_sem]
   rw [fY]
   exact ⟨_,fN _,ah _,hs,trivial,rfl⟩
end Go.Proofs
namespace Go.Proofs
open Go Go.c8
def ft (T:Un→ln→Tm×Bool) (s:ln):List Un→Option (Un×Tm)
 | []=>none
 | u :: us=>if (T u s).2=true then some (u,(T u s).1) else ft T s us
def iI (T:Un→ln→Tm×Bool) (us:List Un):List ln→Option (ln×Un×Tm)
 | []=>none
 | s :: ss=>match ft T s us with
  | some x=>some (s,x)
  | none=>iI T us ss
def ld (g:List Sy) (T:Un→ln→Tm×Bool) (us:List Un) (c:List Li):List Li×Int×Bool×Int :=
 match iI T us (cr c 0) with
 | none=>(c, -1,false,0)
 | some (s,u,t)=>if bf g (kl c s t)=0 then (kl c s t,u.off,true,0) else ([],0,false,bf g (kl c s t))
theorem D3 (T:Un→ln→Tm×Bool) (us:List Un):∀ ss:List ln,(iI T us ss=none∧∀ s∈ss,ft T s us=none)∨∃ (k:Nat) (h:k<ss.length) (x:Un×Tm),iI T us ss=some (ss[k],x)∧ft T ss[k] us=some x∧∀ j (hj:j<ss.length),j<k→ft T ss[j] us=none
 | []=>.inl ⟨rfl,fun s h=>by cases h⟩
 | s :: ss=>by
  cases hu:ft T s us with
  | some x=>exact .inr ⟨0,by simp,x,by simp [iI,hu],by simpa using hu,fun j _ h=>by omega⟩
  | none =>
   rcases D3 T us ss with ⟨h1,h2⟩ | ⟨k,h,x,h1,h2,h3⟩
   ·refine .inl ⟨by simp [iI,hu,h1],fun y hy=>?_⟩
    rcases aR.1 hy with rfl | hy
    ·exact hu
    ·exact h2 y hy
   ·refine .inr ⟨k+1,by simpa using h,x,by simp [iI,hu,h1],by simpa using h2,fun j hj WC=>?_⟩
    cases j with
    | zero=>simpa using hu
    | succ j=>simpa using h3 j (by simpa using hj) (by omega)
end Go.Proofs
namespace Go.Proofs
open Go Go.c8
attribute [local go_sem] Nat.reduceAdd Nat.reduceSub Nat.reduceMul Nat.reduceLeDiff Nat.reduceEqDiff Nat.reduceBEq Nat.reduceLT Nat.le_refl Int.natCast_zero Nat.sub_zero List.length_map Int.toNat_natCast Int.natCast_one Int.reduceEq Int.reduceLT Int.reduceLE Int.reduceNe Int.sub_zero Int.zero_add Int.toNat_one
theorem Yjd (g:List Sy) (us:List Un) (c:List Li) (T:Un→ln→Tm×Bool) (xe:us.length<1000000) (gU:c.length<1000000) (hc:∀ l∈c,l.l.size≤400∧l.r.size≤400)
  (hT:∀ u∈us, ∀ s∈cr c 0,aJ Tryz.prog 141 [.ps 4 (syms g),u.aO,s.t.aO, .ps 5 (lits c)] (.dA [(T u s).1.aO, .bool (T u s).2]))
  (hP:∀ u∈us, ∀ s∈cr c 0,aJ Tryz.prog 142 [.ps 5 (lits c),s.aO,(T u s).1.aO] (.ps 5 (lits (kl c s (T u s).1))))
  (hK:∀ u∈us, ∀ s∈cr c 0,(T u s).2=true→aJ Tryz.prog 28 [.ps 4 (syms g), .ps 5 (lits (kl c s (T u s).1))] (.int .i64 (bf g (kl c s (T u s).1)))) :
  aJ Tryz.prog 109 [.ps 4 (syms g), .ps 5 (jn us), .ps 5 (lits c)] (.dA [.ps 5 (lits (ld g T us c).1), .int .i64 (ld g T us c).2.1, .bool (ld g T us c).2.2.1, .int .i64 (ld g T us c).2.2.2]):=by
 refine aJ.begin (rs:=[.cell 6 24, .cell 7 3, .cell 8 4, .cell 9 29]) (m:=49) 1000 Tryz.func109 rfl rfl rfl (by decide) ⟨cz _,trivial,trivial,trivial,trivial⟩ ?_
 simp only [go_sem]
 refine (Yfc c _ ?_).mono ?_
 ·simp [go_sem,cz,dK,sm]
 rintro _ _ ⟨rfl,rfl⟩
 refine aK.go 1000 ?_
 simp only [go_sem]
 refine aK.rangeFunc (f_ 52 [(3, .ptr 0 0),(4, .ptr 1 0),(5, .ptr 2 0),(6, .ptr 3 0),(7, .ptr 4 0),(8, .ptr 5 0),(9, .ptr 6 0)]) ?_ ?_ (fun ρ ht vM lj qV=>?_)
 ·simp only [go_sem]
 ·exact fun b hb=>by cases hb
 simp only [go_sem]
 have jv:∀ n,7≤n→bz n ρ.tm:=fun n hn=>iC hn (show bz 7 ρ.tm by rw [ht];simp [go_sem,Ad,Aj])
 have fT:∀ (a:ae) (b c' d:ae) (s:gq),a.low 0→b.low 0→c'.low 0→d.low 0→bw 9 [some (bE.var [.ps 4 (syms g)]),some (bE.var [.ps 5 (jn us)]),some (bE.var [.ps 5 (lits c)]),some (bE.var [a]),some (bE.var [b]),some (bE.var [c']),some (bE.var [d]),some (bE.var [.ps 5 (lits c)]),some (bE.loop (ρ.at s))]:=fun a b c' d s h1 h2 h3 h4 =>
  ⟨⟨dK _,trivial⟩,⟨sm _,trivial⟩,⟨cz _,trivial⟩,⟨m_ (av _) h1,trivial⟩,⟨m_ (av _) h2,trivial⟩,⟨m_ (av _) h3,trivial⟩,⟨m_ (av _) h4,trivial⟩,⟨cz _,trivial⟩,jv 9 (by decide),trivial⟩
 have vI:∀ k (h:k<(cr c 0).length),ft T (cr c 0)[k] us=none→aq Tryz.prog (.lz 8) [(cr c 0)[k].aO] [some (bE.var [.ps 4 (syms g)]),some (bE.var [.ps 5 (jn us)]),some (bE.var [.ps 5 (lits c)]),some (bE.var [.aU]),some (bE.var [.int .i64 0]),some (bE.var [.bool false]),some (bE.var [.int .i64 0]),some (bE.var [.ps 5 (lits c)]),some (bE.loop (ρ.at .ready))] (fun r σ'=>r = .bool true∧σ'=[some (bE.var [.ps 4 (syms g)]),some (bE.var [.ps 5 (jn us)]),some (bE.var [.ps 5 (lits c)]),some (bE.var [.aU]),some (bE.var [.int .i64 0]),some (bE.var [.bool false]),some (bE.var [.int .i64 0]),some (bE.var [.ps 5 (lits c)]),some (bE.loop (ρ.at .ready))]):=fun k h EI=>by
  refine aq.lV 1000 ht vM lj qV rfl rfl ?_
  simp only [go_sem,KW,sO]
  have jM:=aE h
  have MP:∀ u∈us,aJ Tryz.prog 141 [.ps 4 (syms g),u.aO,(cr c 0)[k].t.aO, .ps 5 (lits c)] (.dA [(T u (cr c 0)[k]).1.aO, .bool (T u (cr c 0)[k]).2]):=fun u hu=>hT u hu _ jM
  generalize (cr c 0)[k]=sp at *
  have xc:∀ (l:List Un),ft T sp l=none→∀ u∈l,(T u sp).2=false:=fun l=>by
   induction l with
   | nil=>intro _ u hu;cases hu
   | cons a l ih =>
    intro hf u hu
    rw [ft] at hf
    cases ha:(T a sp).2 with
    | true=>rw [ha] at hf;simp at hf
    | false =>
     rw [ha] at hf
     rcases aR.1 hu with rfl | hu
     ·exact ha
     ·exact ih (by simpa using hf) u hu
  have iU:=fT .aU (.int .i64 0) (.bool false) (.int .i64 0) .busy trivial trivial trivial trivial
  have ql:bw 10 [some (bE.var [.ps 4 (syms g)]),some (bE.var [.ps 5 (jn us)]),some (bE.var [.ps 5 (lits c)]),some (bE.var [.aU]),some (bE.var [.int .i64 0]),some (bE.var [.bool false]),some (bE.var [.int .i64 0]),some (bE.var [.ps 5 (lits c)]),some (bE.loop (ρ.at .busy)),some (bE.var [.int .i64 sp.i, .bool sp.rt, .ps 1 (ints sp.p), .int .i64 sp.t.head, .ps 2 (sp.t.args.map Tm.aO)])] :=
   py (nL (show 9≤10 by decide) iU) ⟨⟨trivial,trivial,dB _,trivial,bR _,trivial⟩,trivial⟩
  refine aK.dc (ι:={j:Nat // j≤us.length}) 1000 (fun q=>f_ 52 [(3, .ptr 0 0),(4, .ptr 1 0),(5, .ptr 2 0),(6, .ptr 3 0),(7, .ptr 4 0),(8, .ptr 5 0),(9, .ptr 6 0),(10, .ptr 9 0),(20, .ps 5 (jn us)),(21, .int .i64 us.length),(22, .int .i64 q.1)])
   (fun _=>[some (bE.var [.ps 4 (syms g)]),some (bE.var [.ps 5 (jn us)]),some (bE.var [.ps 5 (lits c)]),some (bE.var [.aU]),some (bE.var [.int .i64 0]),some (bE.var [.bool false]),some (bE.var [.int .i64 0]),some (bE.var [.ps 5 (lits c)]),some (bE.loop (ρ.at .busy)),some (bE.var [.int .i64 sp.i, .bool sp.rt, .ps 1 (ints sp.p), .int .i64 sp.t.head, .ps 2 (sp.t.args.map Tm.aO)])])
   (fun q=>us.length - q.1) ⟨0,av _⟩ ?_ (fun _=>by simp) ?_
  ·simp only [go_sem,of_eq_true (show bz 10 (jn us)=True from eq_true (sm us))]
   exact ⟨dK _,cz _,cz _,jv 10 (by decide),dB _,bR _⟩
  ·rintro ⟨j,hj⟩
   by_cases bG:(j:Int)<us.length
   ·have aZ:j<us.length:=by omega
    have hw:IntKind.i64.wrap ((j:Int)+1)=((j+1:Nat):Int):=by rw [eC (by omega)];omega
    have zB:(jn us).getD j .undef=us[j].aO:=n6 aZ
    have EU:=aE aZ
    have kz:=MP _ EU
    rw [xc us EI _ EU] at kz
    generalize us[j]=u at *
    simp only [go_sem,bG,sO,zB,Ek]
    refine ⟨by omega,?_⟩
    refine aq.bV [] kz (by simp only [dh];exact cJ _ _ _) ⟨dK _,Jh u,dH _,cz _,trivial⟩ ?_
    rw [jj];simp only [ite_self]
    refine aK.go 1000 ?_
    simp only [go_sem,fJ,hw]
    refine ⟨⟨j+1,by omega⟩,?_,by simp only;omega⟩
    simp only [go_sem,of_eq_true (show bz 10 (jn us)=True from eq_true (sm us))]
    exact ⟨dK _,cz _,cz _,jv 10 (by decide),dB _,bR _⟩
   ·simp only [go_sem,bG]
    refine aK.go 1000 ?_
    simp only [go_sem]
    rw [tZ]
    exact ⟨rfl,[some (bE.var [.ps 4 (syms g)]),some (bE.var [.ps 5 (jn us)]),some (bE.var [.ps 5 (lits c)]),some (bE.var [.aU]),some (bE.var [.int .i64 0]),some (bE.var [.bool false]),some (bE.var [.int .i64 0]),some (bE.var [.ps 5 (lits c)]),some (bE.loop (ρ.at .ready))],by simp [go_sem],ah _,fT _ _ _ _ _ trivial trivial trivial trivial,rfl,rfl⟩
 rcases D3 T us (cr c 0) with ⟨f1,f2⟩ | ⟨k,hk,x,f1,f2,f3⟩
 ·refine (T7 c gU hc _ _ _ _ _ _ _ _ _ (cr c 0).length rfl (fT .aU (.int .i64 0) (.bool false) (.int .i64 0) .ready trivial trivial trivial trivial) (fT .aU (.int .i64 0) (.bool false) (.int .i64 0) .ready trivial trivial trivial trivial) (fun k h _=>?_) (fun h=>absurd h (iQ _))).mono ?_
  ·exact vI k h (f2 _ (aE h))
  ·have hF:ld g T us c=(c, -1,false,0):=by unfold ld;rw [f1]
   rintro r' iZ rfl
   rw [if_neg (iQ _),CG]
   refine ⟨.ready,rfl,?_⟩
   rw [Ej,hF]
   refine aK.go 1000 ?_
   simp only [go_sem]
 ·have jM:=aE hk
  obtain ⟨z,hz⟩:∃ z,ld g T us c=z:=⟨_,rfl⟩
  rw [hz]
  obtain ⟨a3,zv⟩:∃ a3:ae,a3=if bf g (kl c (cr c 0)[k] x.2)=0 then .ps 5 (lits z.1) else .aU:=⟨_,rfl⟩
  have MU:a3.low 0:=by rw [zv];split<;>simp [go_sem,cz]
  have He:aq Tryz.prog (.lz 8) [(cr c 0)[k].aO] [some (bE.var [.ps 4 (syms g)]),some (bE.var [.ps 5 (jn us)]),some (bE.var [.ps 5 (lits c)]),some (bE.var [.aU]),some (bE.var [.int .i64 0]),some (bE.var [.bool false]),some (bE.var [.int .i64 0]),some (bE.var [.ps 5 (lits c)]),some (bE.loop (ρ.at .ready))] (fun r σ'=>r = .bool false∧σ'=[some (bE.var [.ps 4 (syms g)]),some (bE.var [.ps 5 (jn us)]),some (bE.var [.ps 5 (lits c)]),some (bE.var [a3]),some (bE.var [.int .i64 z.2.1]),some (bE.var [.bool z.2.2.1]),some (bE.var [.int .i64 z.2.2.2]),some (bE.var [.ps 5 (lits c)]),some (bE.loop (ρ.at (.done .ret)))]):=by
   refine aq.lV 1000 ht vM lj qV rfl rfl ?_
   simp only [go_sem,KW,sO]
   have A2:z=if bf g (kl c (cr c 0)[k] x.2)=0 then (kl c (cr c 0)[k] x.2,x.1.off,true,0) else ([],0,false,bf g (kl c (cr c 0)[k] x.2)):=by
    rw [← hz];unfold ld;rw [f1]
   have MP:∀ u∈us,aJ Tryz.prog 141 [.ps 4 (syms g),u.aO,(cr c 0)[k].t.aO, .ps 5 (lits c)] (.dA [(T u (cr c 0)[k]).1.aO, .bool (T u (cr c 0)[k]).2]):=fun u hu=>hT u hu _ jM
   have hPs:=fun u hu=>hP u hu _ jM
   have hKs:=fun u hu=>hK u hu _ jM
   generalize (cr c 0)[k]=sp at *
   have ql:bw 10 [some (bE.var [.ps 4 (syms g)]),some (bE.var [.ps 5 (jn us)]),some (bE.var [.ps 5 (lits c)]),some (bE.var [.aU]),some (bE.var [.int .i64 0]),some (bE.var [.bool false]),some (bE.var [.int .i64 0]),some (bE.var [.ps 5 (lits c)]),some (bE.loop (ρ.at .busy)),some (bE.var [.int .i64 sp.i, .bool sp.rt, .ps 1 (ints sp.p), .int .i64 sp.t.head, .ps 2 (sp.t.args.map Tm.aO)])] :=
    py (nL (show 9≤10 by decide) (fT .aU (.int .i64 0) (.bool false) (.int .i64 0) .busy trivial trivial trivial trivial)) ⟨⟨trivial,trivial,dB _,trivial,bR _,trivial⟩,trivial⟩
   refine aK.dc (ι:={j:Nat // j≤us.length∧ft T sp (us.drop j)=some x}) 1000 (fun q=>f_ 52 [(3, .ptr 0 0),(4, .ptr 1 0),(5, .ptr 2 0),(6, .ptr 3 0),(7, .ptr 4 0),(8, .ptr 5 0),(9, .ptr 6 0),(10, .ptr 9 0),(20, .ps 5 (jn us)),(21, .int .i64 us.length),(22, .int .i64 q.1)])
    (fun _=>[some (bE.var [.ps 4 (syms g)]),some (bE.var [.ps 5 (jn us)]),some (bE.var [.ps 5 (lits c)]),some (bE.var [.aU]),some (bE.var [.int .i64 0]),some (bE.var [.bool false]),some (bE.var [.int .i64 0]),some (bE.var [.ps 5 (lits c)]),some (bE.loop (ρ.at .busy)),some (bE.var [.int .i64 sp.i, .bool sp.rt, .ps 1 (ints sp.p), .int .i64 sp.t.head, .ps 2 (sp.t.args.map Tm.aO)])])
    (fun q=>us.length - q.1) ⟨0,av _,by simpa using f2⟩ ?_ (fun _=>by simp) ?_
   ·simp only [go_sem,of_eq_true (show bz 10 (jn us)=True from eq_true (sm us))]
    exact ⟨dK _,cz _,cz _,jv 10 (by decide),dB _,bR _⟩
   ·rintro ⟨j,hj,BO⟩
    by_cases aZ:j<us.length
    ·have bG:(j:Int)<us.length:=by omega
     have hw:IntKind.i64.wrap ((j:Int)+1)=((j+1:Nat):Int):=by rw [eC (by omega)];omega
     have zB:(jn us).getD j .undef=us[j].aO:=n6 aZ
     have EU:=aE aZ
     have kz:=MP _ EU
     have hPu:=hPs _ EU
     have Wi:=hKs _ EU
     rw [ao aZ,ft] at BO
     generalize us[j]=u at *
     simp only [go_sem,bG,sO,zB,Ek]
     refine ⟨by omega,?_⟩
     refine aq.bV [] kz (by simp only [dh];exact cJ _ _ _) ⟨dK _,Jh u,dH _,cz _,trivial⟩ ?_
     rw [jj];simp only [ite_self]
     refine aK.go 1000 ?_
     cases hq:(T u sp).2 with
     | false =>
      rw [hq] at BO
      simp only [a_,if_false] at BO
      simp only [go_sem,hq,fJ,hw]
      refine ⟨⟨j+1,by omega,BO⟩,?_,by simp only;omega⟩
      simp only [go_sem,of_eq_true (show bz 10 (jn us)=True from eq_true (sm us))]
      exact ⟨dK _,cz _,cz _,jv 10 (by decide),dB _,bR _⟩
     | true =>
      rw [hq,if_pos rfl] at BO
      obtain rfl:=aN BO
      simp only at A2 Wi zv
      simp only [go_sem,hq,fJ]
      refine aq.bV [] hPu (by simp only [dh];exact cJ _ _ _) ⟨cz _,Ytw sp,dH _,trivial⟩ ?_
      rw [jj];simp only [ite_self]
      refine aK.go 1000 ?_
      simp only [go_sem]
      refine aq.bV [] (Wi hq) (cJ _ _ _) ⟨dK _,cz _,trivial⟩ ?_
      rw [jj];simp only [ite_self]
      refine aK.go 1000 ?_
      by_cases rN:bf g (kl c sp (T u sp).1)=0
      ·rw [if_pos rN] at A2 zv
       subst A2
       subst zv
       simp only [go_sem,rN]
       refine aK.draw [.no,⟨none,[],[3]⟩,⟨none,[],[3]⟩,⟨none,[3],[]⟩,⟨none,[4],[]⟩,⟨none,[5],[]⟩,⟨none,[6],[]⟩] 12 12 mixed rfl rfl (by decide) ?_
       simp only [go_sem,dC]
       refine aK.go 1000 ?_
       simp only [go_sem]
       refine aK.go 1000 ?_
       simp only [go_sem]
       rw [tZ]
       exact ⟨rfl,[some (bE.var [.ps 4 (syms g)]),some (bE.var [.ps 5 (jn us)]),some (bE.var [.ps 5 (lits c)]),some (bE.var [.ps 5 (lits (kl c sp (T u sp).1))]),some (bE.var [.int .i64 u.off]),some (bE.var [.bool true]),some (bE.var [.int .i64 0]),some (bE.var [.ps 5 (lits c)]),some (bE.loop (ρ.at (.done .ret)))],by simp [go_sem],ah _,fT _ _ _ _ _ (cz _) trivial trivial trivial,rfl,rfl⟩
      ·rw [if_neg rN] at A2 zv
       subst A2
       subst zv
       simp only [go_sem,rN]
       refine aK.go 1000 ?_
       simp only [go_sem]
       rw [tZ]
       exact ⟨rfl,[some (bE.var [.ps 4 (syms g)]),some (bE.var [.ps 5 (jn us)]),some (bE.var [.ps 5 (lits c)]),some (bE.var [.aU]),some (bE.var [.int .i64 0]),some (bE.var [.bool false]),some (bE.var [.int .i64 (bf g (kl c sp (T u sp).1))]),some (bE.var [.ps 5 (lits c)]),some (bE.loop (ρ.at (.done .ret)))],by simp [go_sem],ah _,fT _ _ _ _ _ trivial trivial trivial trivial,rfl,rfl⟩
    ·rw [fW (by omega),ft] at BO
     cases BO
  refine (T7 c gU hc _ _ _ _ _ _ _ _ [some (bE.var [.ps 4 (syms g)]),some (bE.var [.ps 5 (jn us)]),some (bE.var [.ps 5 (lits c)]),some (bE.var [a3]),some (bE.var [.int .i64 z.2.1]),some (bE.var [.bool z.2.2.1]),some (bE.var [.int .i64 z.2.2.2]),some (bE.var [.ps 5 (lits c)]),some (bE.loop (ρ.at (.done .ret)))] k rfl (fT _ _ _ _ _ MU trivial trivial trivial) (fT .aU (.int .i64 0) (.bool false) (.int .i64 0) .ready trivial trivial trivial trivial) (fun j h WC=>vI j h (f3 j h WC)) (fun _=>He)).mono ?_
  rintro r' iZ rfl
  rw [if_pos hk,CG]
  refine ⟨.done .ret,rfl,?_⟩
  rw [Yy7]
  have rS:bf g (kl c (cr c 0)[k] x.2)≠0→z.1=[]:=fun ep=>by
   rw [← hz];unfold ld;rw [f1];simp only [if_neg ep]
  by_cases rN:bf g (kl c (cr c 0)[k] x.2)=0
  ·rw [if_pos rN] at zv
   subst zv
   refine aK.go 1000 ?_
   simp only [go_sem]
  ·rw [if_neg rN] at zv
   subst zv
   rw [rS rN]
   refine aK.go 1000 ?_
   simp only [go_sem,show lits []=[] from rfl]
def xj (g:List Sy) (us:List Un) (c:List Li) (u:List Int):ai:=[some (.var [.ps 4 (syms g)]),some (.var [.ps 5 (lits c)]),some (.var [jo 4 1 (ints u)]),some (.var [.ps 5 (jn us)]),e9 (ints u)]
def Ov (g:List Sy) (us:List Un) (c:List Li) (u:List Int):ai:=[some (.var [.ps 4 (syms g)]),some (.var [.ps 5 (lits c)]),some (.var [jo 6 1 (ints u)]),some (.var [.ps 5 (jn us)]),none,none,e9 (ints u)]
theorem Yt6 (g:List Sy) (us:List Un) (c:List Li) (u:List Int) (z:List Li×Int×Bool×Int) (hu:u.length<1000000)
  (hS:aJ Tryz.prog 109 [.ps 4 (syms g), .ps 5 (jn us), .ps 5 (lits c)] (.dA [.ps 5 (lits z.1), .int .i64 z.2.1, .bool z.2.2.1, .int .i64 z.2.2.2])) :
  aq Tryz.prog (.fn 108 [] [.ptr 0 0, .ptr 3 0, .ptr 1 0, .ptr 2 0]) [] (xj g us c u)
   (fun r σ'=>r = .dA [.bool z.2.2.1, .int .i64 z.2.2.2]∧σ'=if z.2.2.2=0∧z.2.2.1=true then Ov g us z.1 (u++[z.2.1]) else xj g us c u):=by
 unfold xj
 refine aq.begin (rs:=[.tmp 4, .tmp 5]) (m:=27) 1000 Tryz.func108 rfl rfl rfl rfl rfl ?_
 simp only [go_sem]
 refine aq.bV [] hS (cJ _ _ _) ⟨dK _,sm _,cz _,trivial⟩ ?_
 rw [jj];simp only [ite_self]
 refine aK.go 1000 ?_
 have ke:bw 5 (xj g us c u):=by
  unfold xj
  simp [go_sem,dK,cz,sm,dB]
 by_cases h1:z.2.2.2=0
 ·cases h2:z.2.2.1 with
  | true =>
   have vG:bH [some (bE.var [ae.ps 4 (syms g)]),some (bE.var [ae.ps 5 (lits c)]),some (bE.var [jo 4 1 (ints u)]),some (bE.var [ae.ps 5 (jn us)]),e9 (ints u),some (bE.row [ae.int .i64 z.2.1] 0)] 4=e9 (ints u):=by simp [bH]
   simp only [go_sem,h1,vl vG,eQ,aM,forall_eq,cq,ah,lF]
   refine ⟨by omega,?_⟩
   rw [fY]
   unfold Ov
   rw [Cs,wo (by simp),wq (by simp),lF]
   refine ⟨_,?_,by simp,?_,by simp [go_sem],rfl,rfl⟩
   ·simp [iy]
   ·simp [go_sem,dK,cz,sm]
    rw [TH];exact dB _
  | false =>
   simp only [go_sem,h1]
   rw [fY]
   exact ⟨_,fN _,by simp,ke,by simp [go_sem],rfl,rfl⟩
 ·simp only [go_sem,h1]
  rw [fY]
  exact ⟨_,fN _,by simp,ke,by simp [go_sem],rfl,rfl⟩
def fg (S:List Li→List Li×Int×Bool×Int):Nat→List Li→List Int→List Li×List Int×Int
 | 0,_,_=>([],[],9)
 | n+1,c,u=>if (S c).2.2.2≠0 then ([],[],(S c).2.2.2) else if (S c).2.2.1=false then (c,u,0) else if 200<u.length+1 then ([],[],9) else fg S n (S c).1 (u++[(S c).2.1])
theorem Vj (S:List Li→List Li×Int×Bool×Int):∀ n c u,u.length≤200→(fg S n c u).2.1.length≤200
 | 0,_,_,_=>av _
 | n+1,c,u,hu=>by
  rw [fg]
  split
  ·exact av _
  split
  ·exact hu
  split
  ·exact av _
  ·exact Vj S n _ _ (by rw [ay];simp only [ax,aS];omega)
def gk (w:Int) (S:List Li→List Li×Int×Bool×Int) (c:List Li):List Li×List Int×Int:=if w≠0 then ([],[],w) else fg S 201 c []
theorem ZT (g:List Sy) (es:List (List Li)) (us:List Un) (c:List Li) (w:Int) (S:List Li→List Li×Int×Bool×Int) (I:List Li→Prop)
  (hW:aJ Tryz.prog 106 [.ps 4 (syms g), .ps 1 (da es), .ps 5 (lits c)] (.int .i64 w))
  (hU:w=0→aJ Tryz.prog 107 [.ps 1 (da es)] (.ps 5 (jn us)))
  (hI:w=0→I c) (hII:∀ d,I d→(S d).2.2.2=0→(S d).2.2.1=true→I (S d).1)
  (hS:∀ d,I d→aJ Tryz.prog 109 [.ps 4 (syms g), .ps 5 (jn us), .ps 5 (lits d)] (.dA [.ps 5 (lits (S d).1), .int .i64 (S d).2.1, .bool (S d).2.2.1, .int .i64 (S d).2.2.2])) :
  aJ Tryz.prog 68 [.ps 4 (syms g), .ps 1 (da es), .ps 5 (lits c)] (.dA [.ps 5 (lits (gk w S c).1), .ps 1 (ints (gk w S c).2.1), .int .i64 (gk w S c).2.2]):=by
 refine aJ.begin (rs:=[.tmp 6, .tmp 7, .tmp 8]) (m:=40) 1000 Tryz.func68 rfl rfl rfl (by decide) ⟨cz _,dB _,trivial,trivial⟩ ?_
 simp only [go_sem]
 refine aq.bV [] hW (cJ _ _ _) ⟨dK _,fy _,cz _,trivial⟩ ?_
 simp only [bP,bY,bX,if_true]
 refine aK.go 1000 ?_
 by_cases h0:w=0
 ·subst h0
  have hF:gk 0 S c=fg S 201 c []:=by simp [gk]
  rw [hF]
  obtain ⟨Z,hZ⟩:∃ Z,fg S 201 c []=Z:=⟨_,rfl⟩
  rw [hZ]
  simp only [go_sem]
  refine aq.bV [] (hU rfl) (cJ _ _ _) ⟨fy _,trivial⟩ ?_
  rw [jj];simp only [ite_self]
  refine aK.go 1000 ?_
  simp only [go_sem]
  have ke:∀ (d:List Li) (u:List Int),bw 5 (xj g us d u):=fun d u=>by
   unfold xj
   simp [go_sem,dK,cz,sm,dB]
  refine aK.im (ι:={q:List Li×List Int // I q.1∧q.2.length≤200∧fg S (201 - q.2.length) q.1 q.2=Z}) 1000
   (fun _=>f_ 43 [(5, .ptr 1 0),(6, .aU),(7, .aU),(8, .int .i64 0),(10, .ptr 2 0),(12, .fn 108 [] [.ptr 0 0, .ptr 3 0, .ptr 1 0, .ptr 2 0])])
   (fun q=>xj g us q.1.1 q.1.2) (fun q=>201 - q.1.2.length) ⟨(c,[]),hI rfl,by simp,hZ⟩ [] ?_ (fun _=>by simp [xj]) ?_
  ·refine jb rfl ?_
   unfold xj
   simp only [go_sem,FJ,uW,tY,dK,cz,sm,cI (dK _),cI (cz _),cI (sm _)]
  ·rintro ⟨⟨d,u⟩,qX,hu,hn⟩
   simp only at qX hu hn
   have ES:=Yt6 g us d u (S d) (by omega) (hS d qX)
   have NJ : 201 - u.length=(200 - u.length)+1:=by omega
   rw [NJ,fg] at hn
   obtain ⟨z,hz⟩:∃ z,S d=z:=⟨_,rfl⟩
   have fE:=hII d qX
   rw [hz] at hn ES fE
   simp only [go_sem]
   refine ES.mono ?_
   rintro r σ' ⟨rfl,rfl⟩
   by_cases h1:z.2.2.2=0
   ·cases h2:z.2.2.1 with
    | true =>
     rw [if_neg (by simp [h1]),if_neg (by simp [h2])] at hn
     rw [if_pos ⟨h1,rfl⟩]
     unfold Ov
     rw [Cs,wo (by simp),wq (by simp),lF,h1]
     refine aK.go 1000 ?_
     simp only [go_sem]
     by_cases h3 : 200<((u.length+1:Nat):Int)
     ·simp only [go_sem,h3]
      rw [if_pos (by omega)] at hn
      subst hn
      refine aK.go 1000 ?_
      simp only [go_sem]
      exact ⟨rfl,rfl⟩
     ·simp only [go_sem,h3]
      rw [if_neg (by omega)] at hn
      have xe:(u++[z.2.1]).length=u.length+1:=by simp
      refine ⟨⟨(z.1,u++[z.2.1]),fE h1 h2,by rw [xe];omega,by rw [xe,show 201 - (u.length+1)=200 - u.length by omega];exact hn⟩,[(4,6),(6,4)],jb rfl ?_,by simp only [xe];omega⟩
      unfold xj
      have lw:bz 0 (ints (u++[z.2.1])):=dB _
      rw [Cs] at lw
      simp only
      rw [Cs,wo (by simp),wq (by simp),lF]
      simp only [go_sem,dK,cz,sm,cI (dK _),cI (cz _),cI (sm _),cI lw,iC (av _) lw]
    | false =>
     rw [if_neg (by simp [h1]),if_pos h2] at hn
     rw [if_neg (by simp),h1]
     subst hn
     unfold xj
     refine aK.go 1000 ?_
     simp only [go_sem]
     refine aK.draw [] 5 5 mixed rfl rfl (by decide) ?_
     simp only [go_sem,dC]
     refine aK.go 1000 ?_
     simp only [go_sem]
     refine aK.go 1000 ?_
     simp only [go_sem,sn]
   ·rw [if_pos h1] at hn
    rw [if_neg (by simp [h1])]
    subst hn
    unfold xj
    refine aK.go 1000 ?_
    simp only [go_sem,h1]
    refine aK.go 1000 ?_
    simp only [go_sem,h1]
    exact ⟨rfl,rfl⟩
 ·have hF:gk w S c=([],[],w):=by simp [gk,h0]
  rw [hF]
  simp only [go_sem,h0]
  exact ⟨rfl,rfl⟩
end Go.Proofs
namespace Go.Proofs
open Go Go.c8
theorem F1 {P:Tm→Prop} (hP:∀ t,P t→∀ u∈t.args,P u):∀ (p:List Int) (t v:Tm),P t→t.mo p=some v→P v
 | [],t,v,h,e=>by rw [Tm.mo] at e;cases e;exact h
 | n :: p,t,v,h,e=>by
  rw [Tm.mo] at e
  split at e
  ·cases e
  split at e
  ·rename_i h2
   exact F1 hP p _ v (hP t h _ (aE h2)) e
  ·cases e
theorem Yte {P:Tm→Prop} (hP:∀ t,P t→∀ u∈t.args,P u):∀ (s:List (Tm×Tm)) (m m':List Bd),fD s m=some m'→(∀ x∈s,P x.2)→(∀ b∈m,P b.t)→∀ b∈m',P b.t:=by
 intro s m
 induction s,m using fD.induct with
 | case1 m =>
  intro m' h h1 h2
  rw [fD] at h
  cases h
  exact h2
 | case2 x r m hv c hf he ih =>
  intro m' h h1 h2
  rw [fD,if_pos hv,hf] at h
  simp only [if_pos he] at h
  exact ih m' h (fun y hy=>h1 y (by simp [hy])) h2
 | case3 x r m hv c hf he =>
  intro m' h
  rw [fD,if_pos hv,hf] at h
  simp only [if_neg he] at h
  cases h
 | case4 x r m hv hf ih =>
  intro m' h h1 h2
  rw [fD,if_pos hv,hf] at h
  simp only at h
  refine ih m' h (fun y hy=>h1 y (by simp [hy])) (fun b hb=>?_)
  rcases aW.1 hb with hb | hb
  ·exact h2 b hb
  ·rw [aM.1 hb];exact h1 x (by simp)
 | case5 x r m hv hc =>
  intro m' h
  rw [fD,if_neg hv,if_pos hc] at h
  cases h
 | case6 x r m hv hc ih =>
  intro m' h h1 h2
  rw [fD,if_neg hv,if_neg hc] at h
  refine ih m' h (fun y hy=>?_) h2
  rcases aW.1 hy with hy | hy
  ·have hy:=cU.1 hy
   exact hP x.2 (h1 x (by simp)) _ (cZ hy).2
  ·exact h1 y (by simp [hy])
theorem Yhc {P:Tm→Prop} {m:List Bd} (h:∀ b∈m,P b.t) (ks:List Int):∀ b∈jg m ks,P b.t:=fun b hb=>by
 unfold jg at hb
 obtain ⟨v,_,hv⟩:=List.mem_filterMap.1 hb
 cases hf:m.find? (fun c=>c.v==v) with
 | none=>rw [hf] at hv;cases hv
 | some c =>
  rw [hf] at hv
  simp only at hv
  split at hv
  ·cases hv
  ·cases hv;exact h c (bJ hf)
theorem Zs (m:List Bd) (ks:List Int):(jg m ks).length≤ks.length:=List.length_filterMap_le _ _
theorem Ux {P:Tm→Prop} (hP:∀ t,P t→∀ u∈t.args,P u) {a b:Tm} (hb:P b):∀ x∈(gS [a] [b]).1,P x.t:=by
 unfold gS
 split
 ·intro x hx;cases hx
 ·split
  ·intro x hx;cases hx
  ·rename_i m hm
   exact Yhc (Yte hP _ _ _ hm (fun x hx=>by
    simp only [fm,List.zip_nil_right,nZ,lR,bh,aM] at hx
    subst hx;exact hb) (fun b hb=>by cases hb)) _
def DW (t:Tm):Prop:=t.fit∧t.size≤400
theorem IC:∀ t,DW t→∀ u∈t.args,DW u:=fun t h u hu=>by
 have h1:=tA hu
 have h2:=oM t
 exact ⟨wT (xw h.1) u hu,by have:=h.2;omega⟩
theorem ZS (g:List Sy):∀ t,jF g t→∀ u∈t.args,jF g u:=fun t h u hu=>Lr h hu
theorem Yre:∀ (s:List (Tm×Tm)) (m m':List Bd),fD s m=some m'→m'.length≤m.length+lK s:=by
 intro s m
 induction s,m using fD.induct with
 | case1 m =>
  intro m' h
  rw [fD] at h
  cases h;omega
 | case2 x r m hv c hf he ih =>
  intro m' h
  rw [fD,if_pos hv,hf] at h
  simp only [if_pos he] at h
  have:=ih m' h
  simp only [lK];omega
 | case3 x r m hv c hf he =>
  intro m' h
  rw [fD,if_pos hv,hf] at h
  simp only [if_neg he] at h
  cases h
 | case4 x r m hv hf ih =>
  intro m' h
  rw [fD,if_pos hv,hf] at h
  simp only at h
  have:=ih m' h
  have hp:=z8 x.1
  simp only [lK,ay,ax,aS] at this ⊢;omega
 | case5 x r m hv hc =>
  intro m' h
  rw [fD,if_neg hv,if_pos hc] at h
  cases h
 | case6 x r m hv hc ih =>
  intro m' h
  rw [fD,if_neg hv,if_neg hc] at h
  have:=ih m' h
  have h2:=FD x.1 x.2 r
  simp only [lK];omega
theorem Ymr (a b:Tm):(gS [a] [b]).1.length≤a.size:=by
 unfold gS
 split
 ·exact av _
 ·split
  ·exact av _
  ·rename_i m hm
   have h1:=Yre _ _ _ hm
   have h2:=Zs m (gx (m.map Bd.v))
   rw [Eh,ak] at h2
   simp only [fm,List.zip_nil_right,nZ,lR,bh,lK,aS] at h1 ⊢
   omega
mutual
theorem PV {bs:List Bd} (hb:∀ b∈bs,b.t.fit):∀ t:Tm,t.fit→(t.sub bs).fit
 | .mk h ts,hf=>by
  rw [Tm.sub]
  split
  ·unfold qb
   cases hq:bs.find? (fun b=>b.v == -1 - (Tm.mk h ts).head) with
   | some b=>exact hb b (bJ hq)
   | none=>exact hf
  ·exact ⟨hf.1,UW hb ts hf.2⟩
theorem UW {bs:List Bd} (hb:∀ b∈bs,b.t.fit):∀ ts:List Tm,Tm.fits ts→Tm.fits (Tm.sf bs ts)
 | [],_=>trivial
 | t :: ts,hf=>⟨PV hb t hf.1,UW hb ts hf.2⟩
end
def mT (u:Un) (t:Tm):List Bd×Bool×Int:=gS [u.l] [t]
def aT (u:Un) (t:Tm):Tm×Int:=qj (mT u t).1 u.r
def kT (g:List Sy) (u:Un) (t:Tm):Int×Int:=(if dW g [t,(aT u t).1]=0 then dU g t (aT u t).1 else 0,dW g [t,(aT u t).1])
def qT (g:List Sy) (u:Un) (t:Tm) (c:List Li):Int×Int:=oY g [⟨false,t,(aT u t).1⟩] c
def eV (g:List Sy) (c:List Li) (u:Un) (t:Tm):Tm×Bool:=nC g u t (mT u t) (aT u t) (kT g u t) (qT g u t c)
def TT (g:List Sy) (c:List Li) (u:Un) (s:ln):Tm×Bool:=eV g c u s.t
theorem TW:fI.fit:=by unfold fI;exact ⟨by unfold ov;omega,trivial⟩
def gM (g:List Sy) (t:Tm):Prop:=t.term g=0∧t.fit
theorem p8 {g:List Sy} {t:Tm} (h:gM g t):DW t:=⟨h.2,(p7 (mW h.1).1).1⟩
theorem Jj {g:List Sy} {t:Tm} (h:gM g t):jF g t:=Ig h.1 h.2
theorem J8 {g:List Sy} {u:Un} {t:Tm} (hr:gM g u.r) (ht:DW t):(aT u t).1.fit∧(aT u t).1.size≤160000:=by
 have hb:=Ux IC (a:=u.l) ht
 unfold aT qj
 split
 ·exact ⟨TW,by unfold fI;simp [Tm.size,Tm.bF]⟩
 split
 ·have hg:=(p7 (mW hr.1).1).2.2
  have h1:=(p7 (mW hr.1).1).1
  have h2:=K3 (mT u t).1.reverse 400 (by omega) (fun b nn=>(hb b (cU.1 nn)).2) u.r hg
  refine ⟨PV (fun b nn=>(hb b (cU.1 nn)).1) u.r hr.2,?_⟩
  have h3:=aX 400 h1
  simp only at h2 ⊢;omega
 ·exact ⟨TW,by unfold fI;simp [Tm.size,Tm.bF]⟩
theorem Yib {g:List Sy} {u:Un} {t:Tm} {m:List Bd×Bool×Int} {s:Tm×Int} {k q:Int×Int}:(nC g u t m s k q).1=t∨(nC g u t m s k q).1=s.1:=by
 unfold nC
 repeat' split
 all_goals simp
theorem LB {g:List Sy} {c:List Li} {u:Un} {t:Tm} (hr:gM g u.r) (ht:DW t):(eV g c u t).1.fit∧(eV g c u t).1.size≤160000:=by
 unfold eV
 rcases Yib (g:=g) (u:=u) (t:=t) (m:=mT u t) (s:=aT u t) (k:=kT g u t) (q:=qT g u t c) with h | h
 ·rw [h];exact ⟨ht.1,by have:=ht.2;omega⟩
 ·rw [h];exact J8 hr ht
theorem Yiy (g:List Sy) (Dx:gw g=true) (u:Un) (t:Tm) (c:List Li) (hl:gM g u.l) (hr:gM g u.r) (ht:jF g t) (rR:DW t) (EF:c≠[]) (gU:c.length≤400000) (hc:∀ l∈c,pS g l) :
  aJ Tryz.prog 141 [.ps 4 (syms g),u.aO,t.aO, .ps 5 (lits c)] (.dA [(eV g c u t).1.aO, .bool (eV g c u t).2]):=by
 obtain ⟨hg,kZ⟩:=Yr8 Dx
 have AL:=p8 hl
 have nS:=p8 hr
 have hb:=Ux IC (a:=u.l) rR
 have ha:=J8 hr rR (u:=u)
 refine Yfy g u t c (mT u t) (aT u t) (kT g u t) (qT g u t c) (FK (Jj hl).2.1) (FK ht.2.1) ?_ (fun _ _=>?_) (fun _ _ _=>?_) (fun _ _ _ _ _=>?_)
 ·exact ZQ u.l t (by have:=AL.2;omega) (by have:=rR.2;omega) AL.1 rR.1
 ·have hlen:=Ymr u.l t
  refine Yhk _ u.r (by have:=AL.2;unfold mT;omega) (fun b h=>by have:=(hb b h).2;omega) (by have:=nS.2;omega) nS.1 ?_
  have vG:=(p7 (mW hr.1).1).2.2
  have h2:=K3 (mT u t).1.reverse 400 (by omega) (fun b nn=>(hb b (cU.1 nn)).2) u.r vG
  have h3:=aX 400 nS.2
  omega
 ·refine Zub g hg (by omega) t (aT u t).1 (by have:=rR.2;omega) (by have:=ha.2;omega) (fun h=>⟨ht,?_⟩)
  refine Ig (g:=g) ?_ ha.1
  rw [dW] at h
  split at h
  ·rw [dW] at h
   split at h
   ·assumption
   ·rename_i h1 h2;exact absurd h h2
  ·rename_i h1;exact absurd h h1
 ·refine Zw7 g hg (by omega) _ c (by simp) EF (by simp) (by omega) (fun x hx=>?_) hc
  rw [aM.1 hx]
  exact Sq ⟨by have:=rR.2;simp only;omega,by have:=ha.2;simp only;omega⟩ ⟨rR.1,ha.1⟩
theorem QU {i:Nat} {rt:Bool} {t:Tm} {s:ln} (h:s∈cO i rt t):s.i=i∧s.rt=rt∧t.mo s.p=some s.t∧s.p.length<t.size:=by
 unfold cO at h
 obtain ⟨p,hp,rfl⟩:=bZ.1 h
 obtain ⟨p',rfl,h1,v,h2,_⟩:=FN t [] p hp
 refine ⟨rfl,rfl,?_,by simpa using h1⟩
 simp only [bh,h2,br]
theorem zT:∀ (c:List Li) (i:Nat) (s:ln),s∈cr c i→∃ (j:Nat) (h:j<c.length),s.i=((i+j:Nat):Int)∧((c[j]).side s.rt).mo s.p=some s.t∧s.p.length<((c[j]).side s.rt).size
 | [],_,_,h=>by rw [cr] at h;cases h
 | l :: c,i,s,h=>by
  rw [cr] at h
  rcases aW.1 h with h | h
  ·refine ⟨0,by simp,?_⟩
   unfold kh at h
   rcases aW.1 h with h | h
   ·obtain ⟨h1,h2,h3,h4⟩:=QU h
    simp only [eN,Li.side,h2]
    exact ⟨h1,by simpa using h3,by simpa using h4⟩
   ·obtain ⟨h1,h2,h3,h4⟩:=QU h
    simp only [eN,Li.side,h2]
    exact ⟨h1,by simpa using h3,by simpa using h4⟩
  ·obtain ⟨j,hj,h1,h2,h3⟩:=zT c (i+1) s h
   exact ⟨j+1,by simpa using hj,by rw [h1];omega,by simpa using h2,by simpa using h3⟩
def jm (g:List Sy) (c:List Li):Prop:=bf g c=0∧∀ l∈c,l.l.fit∧l.r.fit
theorem xR {g:List Sy} {c:List Li} (h:bf g c=0):gw g=true∧c.length≤32∧∀ l∈c,l.check g=0:=by
 unfold bf at h
 split at h
 ·cases h
 split at h
 ·cases h
 rename_i h1 h2
 refine ⟨by simpa using h1,by omega,?_⟩
 have key:∀ c:List Li,dF g c=0→∀ l∈c,l.check g=0:=by
  intro c
  induction c with
  | nil=>intro _ l hl;cases hl
  | cons a c ih =>
   intro h l hl
   rw [dF] at h
   split at h
   ·rename_i h3;exact absurd h h3
   ·rename_i h3
    rcases aR.1 hl with rfl | hl
    ·simpa using h3
    ·exact ih h l hl
 exact key c h
theorem tX {g:List Sy} {c:List Li} (h:jm g c) {l:Li} (hl:l∈c):gM g l.l∧gM g l.r:=by
 have h1:=Bi ((xR h.1).2.2 l hl)
 have h2:=h.2 l hl
 exact ⟨⟨h1.1,h2.1⟩,h1.2,h2.2⟩
theorem FI {g:List Sy} {c:List Li} (h:jm g c) {l:Li} (hl:l∈c) (b:Bool):gM g (l.side b):=by
 unfold Li.side;split
 ·exact (tX h hl).2
 ·exact (tX h hl).1
theorem Ymz {g:List Sy} {c:List Li} (h:jm g c):∀ l∈c,pS g l:=fun l hl=>by
 obtain ⟨h1,h2⟩:=tX h hl
 have s1:=p8 h1
 have s2:=p8 h2
 exact Sq ⟨by have:=s1.2;omega,by have:=s2.2;omega⟩ ⟨s1.1,s2.1⟩
theorem U9 {u:Tm} (hu:u.fit):∀ (ts:List Tm) (i:Nat),Tm.fits ts→Tm.fits (ts.set i u)
 | [],_,h=>h
 | t :: ts,0,h=>⟨hu,h.2⟩
 | t :: ts,i+1,h=>⟨h.1,U9 hu ts i h.2⟩
theorem Sz (u:Tm):∀ (ts:List Tm) (i:Nat) (h:i<ts.length),Tm.bF (ts.set i u)+(ts[i]).size=Tm.bF ts+u.size
 | t :: ts,0,_=>by simp only [c_,Tm.bF,eN];omega
 | t :: ts,i+1,h=>by simp only [cW,Tm.bF,iG];have:=Sz u ts i (by simpa using h);omega
theorem Pk:∀ (p:List Int) (t u v:Tm),t.mo p=some v→t.fit→u.fit→(t.gX p u).fit∧(t.gX p u).size+v.size=t.size+u.size
 | [],t,u,v,h,ht,hu=>by rw [Tm.mo] at h;cases h;rw [Tm.gX];exact ⟨hu,by omega⟩
 | n :: p,t,u,v,h,ht,hu=>by
  rw [Tm.mo] at h
  split at h
  ·cases h
  split at h
  ·rename_i h1 h2
   have hm:=aE h2
   have hg:t.args.getD n.toNat fI=t.args[n.toNat]:=by simp [List.getD,h2]
   obtain ⟨a1,a2⟩:=Pk p _ u v h (wT (xw ht) _ hm) hu
   rw [Tm.gX,hg]
   refine ⟨⟨Fy ht,U9 a1 _ _ (xw ht)⟩,?_⟩
   have h3:=Sz ((t.args[n.toNat]).gX p u) t.args n.toNat h2
   have h4:=oM t
   rw [Tm.size]
   omega
  ·cases h
theorem Yqw {c:List Li} {i:Nat} {u:Un} (h:u∈wa c i):∃ l:Li,[l]=c∧((u.l=l.l∧u.r=l.r)∨(u.l=l.r∧u.r=l.l)):=by
 unfold wa at h
 split at h
 ·split at h
  ·cases h
  ·simp only [aR,dR,or_false] at h
   rcases h with rfl | rfl
   ·exact ⟨_,rfl, .inl ⟨rfl,rfl⟩⟩
   ·exact ⟨_,rfl, .inr ⟨rfl,rfl⟩⟩
 ·cases h
theorem VE {u:Un}:∀ (es:List (List Li)) (i:Nat),u∈lx es i→∃ l:Li,[l]∈es∧((u.l=l.l∧u.r=l.r)∨(u.l=l.r∧u.r=l.l))
 | [],i,h=>by rw [lx] at h;cases h
 | c :: es,i,h=>by
  rw [lx] at h
  rcases aW.1 h with h | h
  ·obtain ⟨l,h1,h2⟩:=Yqw h
   exact ⟨l,by simp [h1],h2⟩
  ·obtain ⟨l,h1,h2⟩:=VE es (i+1) h
   exact ⟨l,cu _ h1,h2⟩
theorem Zve {es:List (List Li)} {u:Un} (h:u∈cQ es):∃ l:Li,[l]∈es∧((u.l=l.l∧u.r=l.r)∨(u.l=l.r∧u.r=l.l)):=by
 unfold cQ at h
 exact VE es 0 (List.mem_filter.1 h).1
theorem VN:∀ (es:List (List Li)) (i:Nat),(lx es i).length≤2*es.length
 | [],_=>by rw [lx];exact ah _
 | c :: es,i=>by
  rw [lx,ay]
  have:=Yqq c i
  have:=VN es (i+1)
  simp only [ax];omega
theorem Zuf (es:List (List Li)):(cQ es).length≤2*es.length:=by
 have:=VN es 0
 have h2:(cQ es).length≤(lx es 0).length:=List.length_filter_le _ _
 omega
theorem D4 {g:List Sy}:∀ {l:List (List Li)},cF g l=0→∀ c∈l,bf g c=0
 | [],_,c,hc=>by cases hc
 | a :: l,h,c,hc=>by
  rw [cF] at h
  split at h
  ·rename_i h1;exact absurd h h1
  ·rename_i h1
   rcases aR.1 hc with rfl | hc
   ·simpa using h1
   ·exact D4 h c hc
def pM (c:List Li):Prop:=∀ l∈c,l.l.fit∧l.r.fit
theorem Zip {g:List Sy} {es:List (List Li)} (hc:∀ c∈es,bf g c=0) (hf:∀ c∈es,pM c) {u:Un} (h:u∈cQ es):gM g u.l∧gM g u.r:=by
 obtain ⟨l,h1,h2⟩:=Zve h
 have h3:=tX (g:=g) (c:=[l]) ⟨hc _ h1,hf _ h1⟩ (aM.2 rfl)
 rcases h2 with ⟨e1,e2⟩ | ⟨e1,e2⟩
 ·rw [e1,e2];exact h3
 ·rw [e1,e2];exact ⟨h3.2,h3.1⟩
theorem I4 {c:List Li} {s:ln} {i:Nat} (h:i<c.length) (hi:s.i=i) (u:Tm):kl c s u=c.set i (c[i].qt s.rt ((c[i].side s.rt).gX s.p u)):=by
 have:s.i.toNat=i:=by omega
 unfold kl
 rw [this,aA h]
theorem Uz {g:List Sy} {c:List Li} (hc:jm g c) {s:ln} (hs:s∈cr c 0) {u:Tm} (hu:u.fit):pM (kl c s u)∧∀ l∈kl c s u,l.l.size≤400+u.size∧l.r.size≤400+u.size:=by
 obtain ⟨j,hj,h1,h2,h3⟩:=zT c 0 s hs
 rw [bp] at h1
 have hm:=aE hj
 have rP:=FI hc hm s.rt
 obtain ⟨p1,p2⟩:=Pk s.p _ u s.t h2 rP.2 hu
 have NY:=(p8 rP).2
 have nq:=z8 s.t
 rw [I4 hj h1]
 have key:∀ l∈c.set j (c[j].qt s.rt ((c[j].side s.rt).gX s.p u)),(l.l.fit∧l.r.fit)∧l.l.size≤400+u.size∧l.r.size≤400+u.size:=fun l hl=>by
  rcases nK hl with hl | rfl
  ·obtain ⟨a1,a2⟩:=tX hc hl
   have b1:=(p8 a1).2
   have b2:=(p8 a2).2
   exact ⟨⟨a1.2,a2.2⟩,by omega,by omega⟩
  ·obtain ⟨a1,a2⟩:=tX hc hm
   have b1:=(p8 a1).2
   have b2:=(p8 a2).2
   unfold Li.qt
   split
   ·exact ⟨⟨a1.2,p1⟩,by simp only;omega,by simp only;omega⟩
   ·exact ⟨⟨p1,a2.2⟩,by simp only;omega,by simp only;omega⟩
 exact ⟨fun l hl=>(key l hl).1,fun l hl=>(key l hl).2⟩
def eF (g:List Sy) (us:List Un) (c:List Li):List Li×Int×Bool×Int:=ld g (TT g c) us c
theorem Yke (g:List Sy) (us:List Un) (c:List Li) (xe:us.length<1000000) (hu:∀ u∈us,gM g u.l∧gM g u.r) (hc:jm g c) :
  aJ Tryz.prog 109 [.ps 4 (syms g), .ps 5 (jn us), .ps 5 (lits c)] (.dA [.ps 5 (lits (eF g us c).1), .int .i64 (eF g us c).2.1, .bool (eF g us c).2.2.1, .int .i64 (eF g us c).2.2.2]):=by
 obtain ⟨Dx,gU,_⟩:=xR hc.1
 have zH:∀ s∈cr c 0,jF g s.t∧DW s.t∧c≠[]:=fun s hs=>by
  obtain ⟨j,hj,h1,h2,h3⟩:=zT c 0 s hs
  have rP:=FI hc (aE hj) s.rt
  exact ⟨F1 (ZS g) _ _ _ (Jj rP) h2,F1 IC _ _ _ (p8 rP) h2,by rintro rfl;simp at hj⟩
 have N8:∀ u∈us, ∀ s∈cr c 0,(TT g c u s).1.fit∧(TT g c u s).1.size≤160000:=fun u u0 s hs=>LB (hu u u0).2 (zH s hs).2.1
 refine Yjd g us c (TT g c) xe (by omega) (fun l hl=>?_) (fun u u0 s hs=>?_) (fun u u0 s hs=>?_) (fun u u0 s hs _=>?_)
 ·obtain ⟨a1,a2⟩:=tX hc hl
  exact ⟨(p8 a1).2,(p8 a2).2⟩
 ·obtain ⟨h1,h2,h3⟩:=zH s hs
  exact Yiy g Dx u s.t c (hu u u0).1 (hu u u0).2 h1 h2 h3 (by omega) (Ymz hc)
 ·obtain ⟨j,hj,h1,h2,h3⟩:=zT c 0 s hs
  have rP:=(p8 (FI hc (aE hj) s.rt)).2
  exact Ypl c s _ s.t j hj (by rw [h1];simp) h2 (by omega) (by omega) (by omega)
 ·obtain ⟨h1,h2⟩:=N8 u u0 s hs
  have h3:=(Uz hc hs h1).2
  exact Fu g _ (fun i hi=>by have:=h3 _ (aE hi);omega)
theorem HT {T:Un→ln→Tm×Bool} {s:ln} {x:Un×Tm}:∀ {us:List Un},ft T s us=some x→x.1∈us∧x.2=(T x.1 s).1∧(T x.1 s).2=true
 | [],h=>by rw [ft] at h;cases h
 | u :: us,h=>by
  rw [ft] at h
  split at h
  ·rename_i h1;cases h;exact ⟨by simp,rfl,h1⟩
  ·obtain ⟨a1,a2⟩:=HT h
   exact ⟨cu _ a1,a2⟩
theorem Uk {g:List Sy} {us:List Un} {c:List Li} (hu:∀ u∈us,gM g u.l∧gM g u.r) (hc:jm g c) (h0:(eF g us c).2.2.2=0):jm g (eF g us c).1:=by
 unfold eF ld at h0 ⊢
 rcases D3 (TT g c) us (cr c 0) with ⟨f1,_⟩ | ⟨k,hk,x,f1,f2,_⟩
 ·rw [f1];exact hc
 ·rw [f1] at h0 ⊢
  simp only at h0 ⊢
  split
  ·rename_i h1
   obtain ⟨m1,m2,_⟩:=HT f2
   have hs:=aE hk
   obtain ⟨j,hj,g1,g2,g3⟩:=zT c 0 _ hs
   have ta:=F1 IC _ _ _ (p8 (FI hc (aE hj) _)) g2
   refine ⟨h1,?_⟩
   rw [m2]
   exact (Uz hc hs (LB (c:=c) (hu _ m1).2 ta).1).1
  ·rename_i h1
   rw [if_neg h1] at h0
   exact absurd h0 h1
end Go.Proofs
namespace Go.Proofs
open Go Go.c8
attribute [local go_sem] Nat.reduceAdd Nat.reduceSub Nat.reduceMul Nat.reduceLeDiff Nat.reduceEqDiff Nat.reduceBEq Nat.reduceLT Nat.le_refl Int.natCast_zero Nat.sub_zero List.length_map Int.toNat_natCast Int.natCast_one Int.reduceEq Int.reduceLT Int.reduceLE Int.reduceNe Int.sub_zero Int.zero_add Int.toNat_one
def wM (g:List Sy) (es:List (List Li)) (c:List Li):List Li×Int×Bool×Int:=if cF g (c :: es)≠0 then ([],0,false,cF g (c :: es)) else eF g (cQ es) c
def cB (g:List Sy) (es:List (List Li)) (c:List Li):List Li×List Int×Int:=gk (cF g (c :: es)) (eF g (cQ es)) c
def qC (es:List (List Li)) (c:List Li):Prop:=es.length<400000∧∀ x∈c :: es,oL x∧pM x
theorem F5 {g:List Sy} {es:List (List Li)} {c:List Li} (h:qC es c) (hw:cF g (c :: es)=0):jm g c∧(∀ u∈cQ es,gM g u.l∧gM g u.r)∧∀ x∈es,JO x:=by
 have hw:=D4 hw
 have h1:∀ x∈es,jm g x:=fun x hx=>⟨hw x (by simp [hx]),(h.2 x (by simp [hx])).2⟩
 refine ⟨⟨hw c (by simp),(h.2 c (by simp)).2⟩,fun u hu=>Zip (g:=g) (fun x hx=>(h1 x hx).1) (fun x hx=>(h1 x hx).2) hu,fun x hx l hl=>?_⟩
 obtain ⟨a1,a2⟩:=tX (h1 x hx) hl
 have b1:=p8 a1
 have b2:=p8 a2
 exact ⟨⟨b1.1,by have:=b1.2;omega⟩,b2.1,by have:=b2.2;omega⟩
theorem Yna (g:List Sy) (es:List (List Li)) (c:List Li) (h:qC es c) :
  aJ Tryz.prog 68 [.ps 4 (syms g), .ps 1 (da es), .ps 5 (lits c)] (.dA [.ps 5 (lits (cB g es c).1), .ps 1 (ints (cB g es c).2.1), .int .i64 (cB g es c).2.2]):=by
 have hlen:=Zuf es
 exact ZT g es (cQ es) c (cF g (c :: es)) (eF g (cQ es)) (fun d=>cF g (c :: es)=0∧jm g d)
  (Ygb g es c (fun x hx=>(h.2 x hx).1) (by have:=h.1;omega)) (fun h0=>ZP es (by have:=h.1;omega) (F5 h h0).2.2) (fun h0=>⟨h0,(F5 h h0).1⟩)
  (fun d hd e _=>⟨hd.1,Uk (F5 h hd.1).2.1 hd.2 e⟩) (fun d hd=>Yke g (cQ es) d (by have:=h.1;omega) (F5 h hd.1).2.1 hd.2)
theorem Yqt (n:Int) (hn : -1000000≤n∧n≤1000000):aJ Tryz.prog 42 [.int .i64 n] (Tm.mk (-1 - n) []).aO:=by
 refine aJ.begin (rs:=[.cell 2 70]) (m:=5) 1000 Tryz.func42 rfl rfl rfl (by decide) (dH _) ?_
 have hw:IntKind.i64.wrap (-1 - n) = -1 - n:=eC (by omega)
 simp only [go_sem,hw,dh]
 exact ⟨rfl,rfl⟩
theorem I1 (n:Int) (ts:List Tm):aJ Tryz.prog 43 [.int .i64 n, .ps 2 (ts.map Tm.aO)] (Tm.mk n ts).aO:=by
 refine aJ.begin (rs:=[.cell 4 70]) (m:=6) 1000 Tryz.func43 rfl rfl rfl (by decide) (dH _) ?_
 simp only [go_sem,dh]
 exact ⟨rfl,cJ _ _ _⟩
def vX (a b:Int):Int:=if a<b then -1 else if b<a then 1 else 0
theorem L_ {a b:Int} (h:a≠b):vX a b≠0:=by unfold vX;split<;>(try split)<;>omega
theorem K6 (a b:Int):aJ Tryz.prog 155 [.int .i64 a, .int .i64 b] (.int .i64 (vX a b)):=by
 refine aJ.begin (rs:=[.tmp 4]) (m:=9) 1000 Tryz.func155 rfl rfl rfl (by decide) trivial ?_
 unfold vX
 by_cases h1:a<b
 ·simp only [go_sem,h1]
 ·by_cases h2:b<a
  ·simp only [go_sem,h1,h2]
  ·simp only [go_sem,h1,h2]
mutual
def Tm.cmp:Tm→Tm→Int
 | .mk h ts,u=>if ((Tm.mk h ts).size:Int)≠u.size then vX (Tm.mk h ts).size u.size else if h≠u.head then vX h u.head else if (ts.length:Int)≠u.args.length then vX ts.length u.args.length else Tm.l6 ts u.args
def Tm.l6:List Tm→List Tm→Int
 | [],_=>0
 | _ :: _,[]=>0
 | t :: ts,u :: us=>if t.cmp u≠0 then t.cmp u else Tm.l6 ts us
end
mutual
theorem Qe:∀ t u:Tm,t.cmp u=0↔t=u
 | .mk h ts, .mk k us=>by
  rw [Tm.cmp]
  by_cases h1:((Tm.mk h ts).size:Int)=(Tm.mk k us).size
  ·rw [if_neg (by simpa using h1)]
   by_cases h2:h=k
   ·subst h2
    rw [if_neg (by simp [Tm.head])]
    by_cases h3:(ts.length:Int)=us.length
    ·rw [if_neg (by simpa [Tm.args] using h3)]
     rw [show (Tm.mk h us).args=us from rfl,Px ts us (by omega)]
     simp
    ·rw [if_pos (by simpa [Tm.args] using h3)]
     refine ⟨fun e=>absurd e (L_ (by simpa [Tm.args] using h3)),fun e=>?_⟩
     cases e;exact absurd rfl h3
   ·rw [if_pos (by simpa [Tm.head] using h2)]
    refine ⟨fun e=>absurd e (L_ (by simpa [Tm.head] using h2)),fun e=>?_⟩
    cases e;exact absurd rfl h2
  ·rw [if_pos (by simpa using h1)]
   refine ⟨fun e=>absurd e (L_ h1),fun e=>?_⟩
   rw [e] at h1;exact absurd rfl h1
theorem Px:∀ ts us:List Tm,ts.length=us.length→(Tm.l6 ts us=0↔ts=us)
 | [],[],_=>by simp [Tm.l6]
 | t :: ts,u :: us,hl=>by
  rw [Tm.l6]
  have h1:=Qe t u
  have h2:=Px ts us (by simpa using hl)
  by_cases h3:t.cmp u=0
  ·rw [if_neg (by simp [h3]),h2,h1.1 h3];simp
  ·rw [if_pos h3]
   refine ⟨fun e=>absurd e h3,fun e=>?_⟩
   cases e;exact absurd (h1.2 rfl) h3
end
theorem Zvn (t:Tm):∀ u:Tm,t.size<2 ^ 62→u.size<2 ^ 62→aJ Tryz.prog 129 [t.aO,u.aO] (.int .i64 (t.cmp u)):=by
 induction t using Tm.lb with
 | h h ts ih =>
 intro u hs hu
 obtain ⟨k,us,rfl⟩:∃ k us,u=Tm.mk k us:=⟨u.head,u.args,by cases u;rfl⟩
 have fT:=OI (Tm.mk h ts) hs
 have NZ:=OI (Tm.mk k us) hu
 have bG:=qh ts
 have JA:=qh us
 have fH:(Tm.mk h ts).size=1+Tm.bF ts:=rfl
 have Hf:(Tm.mk k us).size=1+Tm.bF us:=rfl
 refine aJ.begin (rs:=[.tmp 4]) (m:=60) 1000 Tryz.func129 rfl rfl rfl (by decide) trivial ?_
 rw [Tm.cmp,show (Tm.mk k us).args=us from rfl,show (Tm.mk k us).head=k from rfl]
 generalize (Tm.mk h ts).size=n1 at *
 generalize (Tm.mk k us).size=n2 at *
 simp only [go_sem,fJ,Tm.head,Tm.args]
 refine aK.draw [] 2 2 mixed rfl rfl (by decide) ?_
 simp only [go_sem,dC]
 refine n5 (fT) (by (try simp only [dh]);exact cJ _ _ _) (by simp [go_sem,dH,bR]) ?_
 simp only [go_sem]
 refine n5 (NZ) (by (try simp only [dh]);exact cJ _ _ _) (by simp [go_sem,dH,bR]) ?_
 simp only [go_sem]
 refine aK.go 1000 ?_
 by_cases c1:(n1:Int)=n2
 ·rw [if_neg (by simpa using c1)]
  by_cases c2:h=k
  ·rw [if_neg (fun e=>e c2)]
   by_cases c3:(ts.length:Int)=us.length
   ·rw [if_neg (fun e=>e c3)]
    obtain ⟨Z,hZ⟩:∃ Z,Tm.l6 ts us=Z:=⟨_,rfl⟩
    rw [hZ]
    simp only [go_sem,c1,c2,c3,Tm.head,Tm.args]
    refine aK.dc (ι:={i:Nat // i≤ts.length∧Tm.l6 (ts.drop i) (us.drop i)=Z}) 1000 (fun q=>f_ 62 [(2, .ptr 0 0),(3, .ptr 1 0),(4, .int .i64 0),(5, .int .i64 q.1)])
     (fun _=>[some (.var [.int .i64 h, .ps 2 (ts.map Tm.aO)]),some (.var [.int .i64 k, .ps 2 (us.map Tm.aO)])]) (fun q=>ts.length - q.1) ⟨0,by omega,by simpa using hZ⟩ ?_ (fun _=>by simp) ?_
    ·simp only [go_sem,bR,c2]
    ·rintro ⟨i,hi,aQ⟩
     by_cases bG:(i:Int)<ts.length
     ·have aZ:i<ts.length:=by omega
      have Dp:i<us.length:=by omega
      have G3:(i:Int)<us.length:=by omega
      have hw:IntKind.i64.wrap ((i:Int)+1)=((i+1:Nat):Int):=by rw [eC (by omega)];omega
      have g1:(ts.map Tm.aO).getD i .undef=ts[i].aO:=n6 aZ
      have g2:(us.map Tm.aO).getD i .undef=us[i].aO:=n6 Dp
      have z1:=Bg ts i aZ
      have z2:=Bg us i Dp
      have hc:=ih i aZ us[i] (by omega) (by omega)
      rw [ao aZ,ao Dp,Tm.l6] at aQ
      generalize ts[i]=x at *
      generalize us[i]=y at *
      simp only [go_sem,bG]
      refine aK.draw [] 2 2 mixed rfl rfl (by decide) ?_
      simp only [go_sem,dC,g1,g2,fJ,bG,G3]
      (repeat ((with_reducible refine And.intro ?_ ?_); ·omega))
      refine n5 (hc) (by (try simp only [dh]);exact cJ _ _ _) (by simp [go_sem,dH,bR]) ?_
      simp only [go_sem]
      refine aK.go 1000 ?_
      by_cases c4:x.cmp y=0
      ·rw [if_neg (by simp [c4])] at aQ
       simp only [go_sem,c4,hw]
       refine ⟨⟨i+1,by omega,aQ⟩,?_,by simp only;omega⟩
       simp only [go_sem,bR]
      ·rw [if_pos c4] at aQ
       simp only [go_sem,c4]
       refine aK.go 1000 ?_
       simp only [go_sem,aQ]
     ·have dV:i=ts.length:=by omega
      subst dV
      rw [aV,Tm.l6] at aQ
      simp only [go_sem,bG]
      refine aK.go 1000 ?_
      simp only [go_sem,aQ]
   ·rw [if_pos c3]
    simp only [go_sem,c1,c2,c3,Tm.head,Tm.args]
    refine aq.bV [] (K6 ts.length us.length) (by (try simp only [dh]);exact cJ _ _ _) (by simp [go_sem,dH,bR]) ?_;simp only [bP,bY,bX,if_true];refine aK.go 1000 ?_
    simp only [go_sem]
  ·rw [if_pos c2]
   simp only [go_sem,c1,c2,Tm.head,Tm.args]
   refine aq.bV [] (K6 h k) (by (try simp only [dh]);exact cJ _ _ _) (by simp [go_sem,dH,bR]) ?_;simp only [bP,bY,bX,if_true];refine aK.go 1000 ?_
   simp only [go_sem]
 ·rw [if_pos c1]
  simp only [go_sem,c1]
  refine aK.draw [] 2 2 mixed rfl rfl (by decide) ?_
  simp only [go_sem,dC]
  refine n5 (fT) (by (try simp only [dh]);exact cJ _ _ _) (by simp [go_sem,dH,bR]) ?_
  simp only [go_sem]
  refine n5 (NZ) (by (try simp only [dh]);exact cJ _ _ _) (by simp [go_sem,dH,bR]) ?_
  simp only [go_sem]
  refine n5 (K6 n1 n2) (by (try simp only [dh]);exact cJ _ _ _) (by simp [go_sem,dH,bR]) ?_
  simp only [go_sem]
  refine aK.go 1000 ?_
  simp only [go_sem]
theorem VJ (t u:Tm) (ht:t.size<2 ^ 62) (hu:u.size<2 ^ 62):aJ Tryz.prog 88 [t.aO,u.aO] (.bool (decide (t=u))):=by
 have hc:=Zvn t u ht hu
 have he:=Qe t u
 refine aJ.begin (rs:=[.tmp 4]) (m:=7) 1000 Tryz.func88 rfl rfl rfl (by decide) trivial ?_
 simp only [go_sem,fJ]
 refine aq.bV [] (hc) (by (try simp only [dh]);exact cJ _ _ _) (by simp [go_sem,dH,bR]) ?_;simp only [bP,bY,bX,if_true];refine aK.go 1000 ?_
 by_cases h:t=u
 ·subst h
  simp only [go_sem,he.2 rfl,decide_true]
 ·simp only [go_sem,show ¬ t.cmp u=0 from fun e=>h (he.1 e),h,decide_false]
def Li.CQ (a b:Li):Bool:=decide (a.neg=b.neg)&&(decide (a.l=b.l)&&decide (a.r=b.r))
theorem Yz2 {a b:Li}:a.CQ b=true↔a=b:=by
 cases a;cases b;simp [Li.CQ]
theorem YQ (a b:Li) (ha:a.l.size<2 ^ 62∧a.r.size<2 ^ 62) (hb:b.l.size<2 ^ 62∧b.r.size<2 ^ 62):aJ Tryz.prog 53 [a.aO,b.aO] (.bool (a.CQ b)):=by
 have h1:=VJ a.l b.l ha.1 hb.1
 have h2:=VJ a.r b.r ha.2 hb.2
 refine aJ.begin (rs:=[.tmp 4]) (m:=22) 1000 Tryz.func53 rfl rfl rfl (by decide) trivial ?_
 unfold Li.CQ
 simp only [go_sem,kL]
 by_cases c1:a.neg=b.neg
 ·have Mv:(a.neg==b.neg)=true:=by simp [c1]
  simp only [go_sem,Mv,c1,decide_true,cy]
  refine aq.bV [] (h1) (by (try simp only [dh]);exact cJ _ _ _) (by simp [go_sem,dH,bR]) ?_;simp only [bP,bY,bX,if_true];refine aK.go 1000 ?_
  by_cases c2:a.l=b.l
  ·simp only [go_sem,c2,decide_true,cy]
   refine aq.bV [] (h2) (by (try simp only [dh]);exact cJ _ _ _) (by simp [go_sem,dH,bR]) ?_;simp only [bP,bY,bX,if_true];refine aK.go 1000 ?_
   simp only [go_sem]
  ·simp only [go_sem,c2,decide_false,dg]
 ·have Mv:(a.neg==b.neg)=false:=by simp [c1]
  simp only [go_sem,Mv,c1,decide_false,dg]
def pJ:List Li→List Li→Bool
 | [],[]=>true
 | a :: c,b :: d=>a.CQ b&&pJ c d
 | _,_=>false
theorem IL:∀ c d:List Li,pJ c d=true↔c=d
 | [],[]=>by simp [pJ]
 | [],_ :: _=>by simp [pJ]
 | _ :: _,[]=>by simp [pJ]
 | a :: c,b :: d=>by simp [pJ,Yz2,IL c d]
def A5 (c:List Li):Prop:=∀ l∈c,l.l.size<2 ^ 62∧l.r.size<2 ^ 62
theorem Yik {a b:List Li} (h:a.length=b.length) {i:Nat} (h1:i<a.length) (h2:i<b.length):pJ (a.drop i) (b.drop i)=(a[i].CQ b[i]&&pJ (a.drop (i+1)) (b.drop (i+1))):=by
 rw [ao h1,ao h2,pJ]
theorem RI (a b:List Li) (ha:A5 a) (hb:A5 b) (hl:a.length<2 ^ 62):aJ Tryz.prog 19 [.ps 5 (lits a), .ps 5 (lits b)] (.bool (pJ a b)):=by
 refine aJ.begin (rs:=[.tmp 4]) (m:=25) 1000 Tryz.func19 rfl rfl rfl (by decide) trivial ?_
 obtain ⟨Z,hZ⟩:∃ Z,pJ a b=Z:=⟨_,rfl⟩
 rw [hZ]
 by_cases c1:(a.length:Int)=b.length
 ·simp only [go_sem,gj,c1]
  refine aK.dc (ι:={i:Nat // i≤a.length∧pJ (a.drop i) (b.drop i)=Z}) 1000 (fun q=>f_ 27 [(0, .ps 5 (lits a)),(1, .ps 5 (lits b)),(4, .bool false),(5, .int .i64 q.1)])
   (fun _=>[]) (fun q=>a.length - q.1) ⟨0,by simpa using hZ⟩ ?_ (fun _=>av _) ?_
  ·simp only [go_sem,cz]
  ·rintro ⟨i,hi,aQ⟩
   by_cases bG:(i:Int)<a.length
   ·have aZ:i<a.length:=by omega
    have Dn:i<b.length:=by omega
    have G2:(i:Int)<b.length:=by omega
    have hw:IntKind.i64.wrap ((i:Int)+1)=((i+1:Nat):Int):=by rw [eC (by omega)];omega
    have g1:=tV aZ
    have g2:=tV Dn
    have hc:=YQ a[i] b[i] (ha _ (aE aZ)) (hb _ (aE Dn))
    rw [Yik (by omega) aZ Dn] at aQ
    generalize a[i]=x at *
    generalize b[i]=y at *
    simp only [go_sem,gj,bG]
    refine aK.draw [] 0 0 mixed rfl rfl (by decide) ?_
    simp only [go_sem,dC,g1,g2,kL,bG,G2,gj]
    (repeat ((with_reducible refine And.intro ?_ ?_); ·omega))
    refine n5 hc (cJ _ _ _) ⟨na _,na _,trivial⟩ ?_
    simp only [go_sem]
    refine aK.go 1000 ?_
    cases c4:x.CQ y with
    | true =>
     rw [c4,cy] at aQ
     simp only [go_sem,hw]
     refine ⟨⟨i+1,by omega,aQ⟩,?_,by simp only;omega⟩
     simp only [go_sem,cz]
    | false =>
     rw [c4,dg] at aQ
     simp only [go_sem]
     refine aK.go 1000 ?_
     simp only [go_sem,aQ]
   ·have dV:i=a.length:=by omega
    subst dV
    have:b.drop a.length=[]:=fW (by omega)
    rw [aV,this,pJ] at aQ
    subst aQ
    simp only [go_sem,gj,bG]
    refine aK.go 1000 ?_
    simp only [go_sem]
 ·have:Z=false:=by
   rw [← hZ,← df,IL]
   rintro rfl;exact c1 rfl
  rw [this]
  simp only [go_sem,gj,c1]
def oE (m:Int):List Tm→Int→Int
 | [],n=>n
 | t :: ts,n=>if n≤m then oE m ts (n+t.sq m) else n
theorem Sc {m:Int} (hm : 0≤m):∀ (ts:List Tm) (n:Int),0≤n→n≤2*m+1→0≤oE m ts n∧(oE m ts n≤m→oE m ts n=n+Tm.bF ts)
 | [],n,h,_=>⟨by simp [oE,h],fun _=>by simp [oE,Tm.bF]⟩
 | t :: ts,n,h,h2=>by
  have hb:=Ch t m hm
  simp only [oE]
  split
  ·obtain ⟨h3,h4⟩:=Sc hm ts (n+t.sq m) (by omega) (by omega)
   refine ⟨h3,fun h5=>?_⟩
   have h6:=h4 h5
   have h7:=K9 t m hm (by
    have:(0:Int)≤Tm.bF ts:=by omega
    omega)
   simp only [Tm.bF];omega
  ·exact ⟨h,fun h5=>by omega⟩
def pK (c:List Li):Bool:=decide (oE 80 (cP c) 0≤80)&&decide (c.length≤8)
theorem TJ (c:List Li) (hc:c.length≤2600000000000):aJ Tryz.prog 23 [.ps 5 (lits c)] (.bool (pK c)):=by
 refine aJ.begin (rs:=[.tmp 2]) (m:=31) 1000 Tryz.func23 rfl rfl rfl (by decide) trivial ?_
 simp only [go_sem]
 refine aq.bV [] (R7 c hc) (cJ _ _ _) ⟨cz _,trivial⟩ ?_
 rw [jj];simp only [ite_self]
 refine aK.go 1000 ?_
 have yF:=Fk c
 have hF:pK c=(decide (oE 80 (cP c) 0≤80)&&decide (c.length≤8)):=rfl
 rw [hF]
 generalize cP c=ts at *
 simp only [go_sem]
 refine aK.dc (ι:={p:Nat×Int // p.1≤ts.length∧0≤p.2∧p.2≤161∧oE 80 (ts.drop p.1) p.2=oE 80 ts 0}) 1000 (fun p=>f_ 32 [(0, .ps 5 (lits c)),(2, .bool false),(3, .int .i64 p.1.2),(4, .ps 2 (ts.map Tm.aO)),(5, .int .i64 p.1.1)]) (fun _=>[]) (fun p=>ts.length - p.1.1) ⟨(0,0),by simp⟩ ?_ (fun _=>av _) ?_
 ·simp only [go_sem,bR,cz]
 ·rintro ⟨⟨i,n⟩,hi,h1,h2,h3⟩
  simp only at hi h1 h2 h3
  by_cases bG:(i:Int)<ts.length
  ·have aZ:i<ts.length:=by omega
   by_cases hn:n≤80
   ·simp only [go_sem,ak,bG,hn,n6 aZ,fJ]
    refine ⟨by omega,?_⟩
    refine aq.bV [] (UR ts[i] 80 (by omega) (by omega)) (by (try simp only [dh]);exact cJ _ _ _) (by simp [go_sem,dH,bR]) ?_;simp only [bP,bY,bX,if_true];refine aK.go 1000 ?_
    simp only [go_sem]
    have hb:=Ch ts[i] 80 (by omega)
    refine ⟨⟨(i+1,n+ts[i].sq 80),aZ,by simp only;omega,by simp only;omega,?_⟩,?_,by simp only;omega⟩
    ·simp only
     rw [← h3,ao aZ,oE,if_pos hn]
    ·simp only [go_sem,bR,cz]
     rw [eC (by omega),eC (by omega)]
     simp
   ·simp only [go_sem,ak,bG,hn]
    refine aK.go 1000 ?_
    have:oE 80 (ts.drop i) n=n:=by cases ts.drop i<;>simp [oE,hn]
    rw [← h3,this]
    simp only [go_sem,hn,decide_false,dg]
  ·simp only [go_sem,ak,bG]
   refine aK.go 1000 ?_
   have:i=ts.length:=by omega
   subst this
   rw [← h3,aV,oE]
   by_cases hn:n≤80
   ·simp only [go_sem,hn,decide_true,cy,gj]
    congr 1
    simp;omega
   ·simp only [go_sem,hn,decide_false,dg]
def kF:List (List Li)→Int→Bool×Int
 | [],n=>(true,n)
 | c :: es,n=>if iR c then kF es (n+c.length) else (false,n)
def o8 (es:List (List Li)):Bool:=decide (es.length≤8)&&((kF es 0).1&&decide ((kF es 0).2≤40))
theorem Yi0 (es:List (List Li)):aJ Tryz.prog 25 [.ps 1 (da es)] (.bool (o8 es)):=by
 refine aJ.begin (rs:=[.tmp 2]) (m:=35) 1000 Tryz.func25 rfl rfl rfl (by decide) trivial ?_
 simp only [go_sem]
 by_cases h8:(es.length:Int)≤8
 ·have h8':es.length≤8:=by omega
  refine aK.dc (ι:={p:Nat×Int // p.1≤es.length∧0≤p.2∧p.2≤40*p.1∧kF (es.drop p.1) p.2=kF es 0}) 1000 (fun p=>f_ 36 [(0, .ps 1 (da es)),(2, .bool false),(3, .int .i64 p.1.2),(4, .int .i64 p.1.1)]) (fun _=>[]) (fun p=>es.length - p.1.1) ⟨(0,0),by simp⟩ ?_ (fun _=>av _) ?_
  ·simp only [go_sem,fy]
  ·rintro ⟨⟨i,n⟩,hi,h1,h2,h3⟩
   simp only at hi h1 h2 h3
   by_cases bG:(i:Int)<es.length
   ·have aZ:i<es.length:=by omega
    have hw:IntKind.i64.wrap ((i:Int)+1)=((i+1:Nat):Int):=by rw [eC (by omega)];omega
    have g1:=Ae aZ
    rw [ao aZ,kF] at h3
    generalize es[i]=c at *
    simp only [go_sem,nM,bG,h8,g1]
    refine ⟨by omega,?_⟩
    refine aq.bV [] (Sj c) (cJ _ _ _) (by simp [go_sem,cz]) ?_;simp only [bP,bY,bX,if_true];refine aK.go 1000 ?_
    cases hf:iR c with
    | true =>
     rw [hf,if_pos rfl] at h3
     have gU:c.length≤40:=by
      unfold iR at hf
      simp only [aC,decide_eq_true_eq] at hf
      exact hf.1
     simp only [go_sem,g1,gj,nM,bG,h8]
     (repeat ((with_reducible refine And.intro ?_ ?_); ·omega))
     refine ⟨⟨(i+1,n+c.length),aZ,by simp only;omega,by simp only;omega,h3⟩,?_,by simp only;omega⟩
     simp only [go_sem,fy,hw]
     rw [eC (by omega)]
    | false =>
     rw [hf,if_neg (by simp)] at h3
     have hF:o8 es=false:=by unfold o8;rw [← h3];simp
     simp only [go_sem]
     refine aK.go 1000 ?_
     simp only [go_sem,hF]
   ·simp only [go_sem,nM,bG]
    refine aK.go 1000 ?_
    have:i=es.length:=by omega
    subst this
    rw [aV,kF] at h3
    unfold o8
    rw [← h3]
    simp only [go_sem,nM,h8,h8',decide_true,cy]
 ·refine aK.dc (ι:=Unit) 1000 (fun p=>f_ 36 [(0, .ps 1 (da es)),(2, .bool false),(3, .int .i64 0),(4, .int .i64 0)]) (fun _=>[]) (fun p=>0) () ?_ (fun _=>av _) ?_
  ·simp only [go_sem,fy]
  ·rintro ⟨⟩
   have bG:(0:Int)<es.length:=by omega
   have hF:o8 es=false:=by
    unfold o8
    rw [show decide (es.length≤8)=false from by simp;omega]
    rfl
   simp only [go_sem,nM,bG,h8]
   refine aK.go 1000 ?_
   simp only [go_sem,nM,h8,hF]
def sg:List Sy:=[⟨⟨#[36,116,114,117,101]⟩,0,1,true⟩,⟨⟨#[97]⟩,0,1,false⟩,⟨⟨#[102]⟩,1,1,false⟩,⟨⟨#[112]⟩,1,1,true⟩]
def gY:Tm:=.mk (-1) []
def iz:Tm:=.mk 1 []
def nY:List (List Li):=[[⟨false, .mk 2 [gY],gY⟩]]
def iB (t:Tm):List Li:=[⟨false, .mk 3 [t], .mk 0 []⟩]
def iA (t:Tm):Tm:=.mk 2 [t]
theorem Ymq (t:Tm):(iA t).aO = .agg [.int .i64 2, .ps 2 [.agg [.int .i64 t.head, .ps 2 (t.args.map Tm.aO)]]]:=by
 rw [iA,dh,← dh t];rfl
theorem zg (t:Tm):bP (iA t).aO=false:=by rw [Ymq];rfl
theorem F0 (t:Tm):aJ Tryz.prog 43 [.int .i64 2, .ps 2 [t.aO]] (iA t).aO:=I1 2 [t]
@[go_sem] theorem Xad (t:Tm):(cN t.aO=true)=True:=eq_true (by rw [dh];rfl)
theorem PX (l:Li) (h1:l.l.size<1000∧l.r.size<1000) (h2:l.l.fit∧l.r.fit):oL [l]∧pM [l]:=by
 refine ⟨fun i h=>?_,fun x hx=>?_⟩
 ·have:i=0:=by simpa using h
  subst this
  simp only [eN];omega
 ·rw [aM.1 hx];exact h2
theorem FV:gY.fit∧iz.fit∧(iA gY).fit∧(iA (iA iz)).fit∧∀ t:Tm,t.fit→(Tm.mk 3 [t]).fit:=by
 refine ⟨?_,?_,?_,?_,fun t h=>?_⟩<;>simp [gY,iz,iA,Tm.fit,Tm.fits,ov]
 exact h
theorem Pc:∀ x∈nY,oL x∧pM x:=fun x hx=>by
 have:x=[⟨false, .mk 2 [gY],gY⟩]:=by simpa [nY] using hx
 subst this
 exact PX _ (by decide) ⟨FV.2.2.1,FV.1⟩
theorem Mc (t:Tm) (h:t.size<100) (hf:t.fit):oL (iB t)∧pM (iB t):=PX _ ⟨by simp [Tm.size,Tm.bF];omega,by simp [Tm.size,Tm.bF]⟩ ⟨FV.2.2.2.2 t hf,by simp [Tm.fit,Tm.fits,ov]⟩
theorem Yxo (t:Tm) (h:t.size<100) (hf:t.fit):qC nY (iB t):=⟨by decide,fun x hx=>by
 rcases aR.1 hx with rfl | hx
 ·exact Mc t h hf
 ·exact Pc x hx⟩
end Go.Proofs
namespace Go.Proofs
open Go Go.c8
theorem Ho {l:List ae} (h:l.length=2):∃ a b,l=[a,b]:=by
 rcases l with _ | ⟨a,_ | ⟨b,_ | ⟨c,l⟩⟩⟩<;>first | exact ⟨_,_,rfl⟩ | simp at h
theorem Oo {l:List ae} (h:l.length=3):∃ a b c,l=[a,b,c]:=by
 rcases l with _ | ⟨a,l⟩
 ·simp at h
 ·obtain ⟨b,c,rfl⟩:=Ho (l:=l) (by simpa using h);exact ⟨_,_,_,rfl⟩
theorem Hq {l:List ae} (h:l.length=4):∃ a b c d,l=[a,b,c,d]:=by
 rcases l with _ | ⟨a,l⟩
 ·simp at h
 ·obtain ⟨b,c,d,rfl⟩:=Oo (l:=l) (by simpa using h);exact ⟨_,_,_,_,rfl⟩
theorem Oq {l:List ae} (h:l.length=5):∃ a b c d e,l=[a,b,c,d,e]:=by
 rcases l with _ | ⟨a,l⟩
 ·simp at h
 ·obtain ⟨b,c,d,e,rfl⟩:=Hq (l:=l) (by simpa using h);exact ⟨_,_,_,_,_,rfl⟩
theorem P1:∀ {ts:List Tm},(∀ t∈ts,t.fit)→Tm.fits ts
 | [],_=>trivial
 | t :: ts,h=>⟨h t List.mem_cons_self,P1 fun x hx=>h x (cu _ hx)⟩
theorem Ytk (t:Tm):cN t.aO=true:=by rw [dh];rfl
theorem PB:∀ (n:Nat) (cs:List ae),mH Tryz.prog n 70 cs→∃ t:Tm,cs=t.aO.cells∧t.fit:=by
 intro n
 induction n using Nat.strongRecOn with
 | _ n ih =>
 intro cs h
 obtain ⟨m,rfl,h1,h2⟩:=K_ (L:=[(3,0,1),(68,1,1)]) (N:=2) (by kernel_rfl) (by kernel_rfl) h
 obtain ⟨i,e1,hi⟩:=LU (by kernel_rfl) (h2 (3,0,1) (by simp))
 obtain ⟨m',rfl,es,e2,_,h4⟩:=Lz (e:=70) (sz:=2) (ag:=true) (by kernel_rfl) (h2 (68,1,1) (by simp))
 obtain ⟨ts,rfl,h5⟩:=D5 (f:=Tm.aO) (p:=Tm.fit) es fun x hx=>by
  obtain ⟨g1,g2⟩:=h4 x hx
  obtain ⟨t,g3,g4⟩:=ih m' (by omega) _ g2
  exact ⟨t,Iu g1 (Ytk t) g3,g4⟩
 obtain ⟨a,b,rfl⟩:=Ho h1
 simp at e1 e2
 subst e1 e2
 exact ⟨.mk i ts,by rw [fJ];rfl,hi,P1 h5⟩
theorem SX {a:ae} {t e:TypeId} {sz:Nat} {ag:Bool} (hs:nJ Tryz.prog t=some (e,sz,ag)) (ha:jc Tryz.prog t=false) (h:zS Tryz.prog t a):∃ m es,a = .ps sz es∧es.length≤maxLen∧∀ x∈es,cN x=ag∧mH Tryz.prog m e x.cells:=by
 obtain ⟨h1,n,h2⟩:=h
 obtain ⟨m,_,es,h3,h4,h5⟩:=Lz hs h2
 exact ⟨m,es,Kq (h1.trans ha) h3,h4,h5⟩
theorem Ytj (n:Nat) (cs:List ae) (h:mH Tryz.prog n 79 cs):∃ s:Sy,cs=s.aO.cells∧True:=by
 obtain ⟨m,rfl,h1,h2⟩:=K_ (L:=[(9,0,1),(3,1,1),(3,2,1),(4,3,1)]) (N:=4) (by kernel_rfl) (by kernel_rfl) h
 obtain ⟨s,e1,_⟩:=Ytv (by kernel_rfl) (h2 (9,0,1) (by simp))
 obtain ⟨i,e2,_⟩:=LU (by kernel_rfl) (h2 (3,1,1) (by simp))
 obtain ⟨j,e3,_⟩:=LU (by kernel_rfl) (h2 (3,2,1) (by simp))
 obtain ⟨b,e4⟩:=Ve (by kernel_rfl) (h2 (4,3,1) (by simp))
 obtain ⟨x1,x2,x3,x4,rfl⟩:=Hq h1
 simp at e1 e2 e3 e4
 subst e1 e2 e3 e4
 exact ⟨⟨s,i,j,b⟩,rfl,trivial⟩
theorem Ykm {a:ae} (h:zS Tryz.prog 22 a):∃ g:List Sy,a = .ps 4 (syms g):=by
 obtain ⟨m,es,rfl,_,h5⟩:=SX (e:=79) (sz:=4) (ag:=true) (by kernel_rfl) (by kernel_rfl) h
 obtain ⟨g,rfl,_⟩:=D5 (f:=Sy.aO) (p:=fun _=>True) es fun x hx=>by
  obtain ⟨g1,g2⟩:=h5 x hx
  obtain ⟨s,g3,_⟩:=Ytj m _ g2
  exact ⟨s,Iu g1 rfl g3,trivial⟩
 exact ⟨g,rfl⟩
theorem OV (n:Nat) (cs:List ae) (h:mH Tryz.prog n 74 cs):∃ l:Li,cs=l.aO.cells∧l.l.fit∧l.r.fit:=by
 obtain ⟨m,rfl,h1,h2⟩:=K_ (L:=[(4,0,1),(70,1,2),(70,3,2)]) (N:=5) (by kernel_rfl) (by kernel_rfl) h
 obtain ⟨b,e1⟩:=Ve (by kernel_rfl) (h2 (4,0,1) (by simp))
 obtain ⟨l,e2,f2⟩:=PB m _ (h2 (70,1,2) (by simp))
 obtain ⟨r,e3,f3⟩:=PB m _ (h2 (70,3,2) (by simp))
 obtain ⟨x1,x2,x3,x4,x5,rfl⟩:=Oq h1
 rw [fJ] at e2 e3
 simp at e1 e2 e3
 obtain ⟨rfl,rfl⟩:=e2
 obtain ⟨rfl,rfl⟩:=e3
 subst e1
 exact ⟨⟨b,l,r⟩,rfl,f2,f3⟩
theorem Yti {a:ae} (h:zS Tryz.prog 23 a):∃ es:List (List Li),a = .ps 1 (da es)∧∀ c∈es,pM c:=by
 obtain ⟨m,es,rfl,h4,h5⟩:=SX (e:=24) (sz:=1) (ag:=false) (by kernel_rfl) (by kernel_rfl) h
 obtain ⟨c,rfl,hc⟩:=D5 (f:=fun c=>.ps 5 (lits c)) (p:=pM) es fun x hx=>by
  obtain ⟨g1,g2⟩:=h5 x hx
  obtain ⟨m',_,rY,e2,_,h6⟩:=Lz (e:=74) (sz:=5) (ag:=true) (by kernel_rfl) g2
  obtain ⟨c,rfl,hc⟩:=D5 (f:=Li.aO) (p:=fun l=>l.l.fit∧l.r.fit) rY fun y hy=>by
   obtain ⟨k1,k2⟩:=h6 y hy
   obtain ⟨s,g3,g4⟩:=OV m' _ k2
   exact ⟨s,Iu k1 rfl g3,g4⟩
  exact ⟨c,Kq g1 e2,hc⟩
 exact ⟨c,rfl,hc⟩
theorem Zy {a:ae} (h:zS Tryz.prog 24 a):∃ c:List Li,a = .ps 5 (lits c)∧pM c∧c.length≤2600000000000:=by
 obtain ⟨h1,n,h2⟩:=h
 obtain ⟨m,_,es,h3,h4,h5⟩:=SY (e:=74) (sz:=5) (ag:=true) (by kernel_rfl) h2
 have e1:a = .ps 5 es:=Kq (h1.trans (by kernel_rfl)) h3
 subst e1
 obtain ⟨c,rfl,hc⟩:=D5 (f:=Li.aO) (p:=fun l=>l.l.fit∧l.r.fit) es fun x hx=>by
  obtain ⟨g1,g2⟩:=h5 x hx
  obtain ⟨s,g3,g4⟩:=OV m _ g2
  exact ⟨s,Iu g1 rfl g3,g4⟩
 refine ⟨c,rfl,hc,?_⟩
 have hb:Tryz.prog.bytesOf 74=72:=by kernel_rfl
 have h6:=h4.2
 rw [hb,ak] at h6
 unfold reachBytes at h6
 omega
end Go.Proofs
namespace Go.Proofs
open Go Go.c8
attribute [local go_sem] Nat.reduceAdd Nat.reduceSub Nat.reduceMul Nat.reduceLeDiff Nat.reduceEqDiff Nat.reduceBEq Nat.reduceLT Nat.le_refl Int.natCast_zero Nat.sub_zero List.length_map Int.toNat_natCast Int.natCast_one Int.reduceEq Int.reduceLT Int.reduceLE Int.reduceNe Int.sub_zero Int.zero_add Int.toNat_one
theorem Zr {c:List Li}:∀ l∈c,l.l.size≤Tm.bF (cP c)∧l.r.size≤Tm.bF (cP c):=by
 induction c with
 | nil=>intro l hl;cases hl
 | cons a c ih =>
  intro l hl
  have e:Tm.bF (cP (a :: c))=a.l.size+(a.r.size+Tm.bF (cP c)):=rfl
  rw [e]
  rcases aR.1 hl with rfl | hl
  ·omega
  ·have:=ih l hl;omega
theorem Yub {c:List Li} (h:pK c=true):Tm.bF (cP c)≤80∧c.length≤8:=by
 unfold pK at h
 simp only [aC,decide_eq_true_eq] at h
 have:=(Sc (m:=80) (by omega) (cP c) 0 (by omega) (by omega)).2 h.1
 omega
theorem Se {c:List Li} (h:iR c=true):Tm.bF (cP c)≤500∧c.length≤40:=by
 unfold iR at h
 simp only [aC,decide_eq_true_eq] at h
 have:=(Sw (cP c) 0 (by omega) (by omega)).2 h.2
 omega
theorem O_:∀ (es:List (List Li)) (n:Int),(kF es n).1=true→∀ c∈es,iR c=true
 | [],_,_,c,hc=>by cases hc
 | d :: es,n,h,c,hc=>by
  rw [kF] at h
  split at h
  ·rename_i h1
   rcases aR.1 hc with rfl | hc
   ·exact h1
   ·exact O_ es _ h c hc
  ·cases h
theorem Mk {es:List (List Li)} (h:o8 es=true):es.length≤8∧∀ c∈es,iR c=true:=by
 unfold o8 at h
 simp only [aC,decide_eq_true_eq] at h
 exact ⟨h.1,O_ es 0 h.2.1⟩
theorem T2 {c:List Li} (h:Tm.bF (cP c)≤1000):oL c:=fun i hi=>by
 have:=Zr (c:=c) _ (aE hi)
 omega
theorem Yws {es:List (List Li)} {c:List Li} (h1:o8 es=true) (h2:pK c=true) (f1:∀ x∈es,pM x) (f2:pM c):qC es c:=by
 obtain ⟨a1,a2⟩:=Mk h1
 refine ⟨by omega,fun x hx=>?_⟩
 rcases aR.1 hx with rfl | hx
 ·exact ⟨T2 (by have:=(Yub h2).1;omega),f2⟩
 ·exact ⟨T2 (by have:=(Se (a2 x hx)).1;omega),f1 x hx⟩
def oh (bs:List Bd) (v:Int):Tm:=((bs.find? fun b=>b.v==v).map Bd.t).getD (.mk (-1 - v) [])
mutual
def Tm.pd (bs:List Bd):Tm→Tm
 | .mk h ts=>if h<0 then oh bs (-1 - h) else .mk h (Tm.JP bs ts)
def Tm.JP (bs:List Bd):List Tm→List Tm
 | []=>[]
 | t :: ts=>t.pd bs :: Tm.JP bs ts
end
theorem zk {t:Tm} (h:t.good=true) : -256≤t.head∧t.head≤1023∧t.args.length≤8∧(t.head<0→t.args=[]):=by
 obtain ⟨k,ts⟩:=t
 rw [Tm.good] at h
 simp only [aC,bU,ct,decide_eq_false_iff_not,fb] at h
 simp only [Tm.head,Tm.args]
 refine ⟨by omega,by omega,by omega,fun hn=>?_⟩
 rcases h.1.1.1.1 with h1 | h1
 ·exact absurd hn h1
 ·exact aY (by omega)
theorem SN:∀ {ts:List Tm},Tm.eH ts=true→∀ t∈ts,t.good=true
 | x :: ts,h,t,ht=>by
  rw [Tm.eH,aC] at h
  rcases aR.1 ht with rfl | ht
  ·exact h.1
  ·exact SN h.2 t ht
theorem qw {t:Tm} (h:t.good=true):∀ u∈t.args,u.good=true:=by
 obtain ⟨k,ts⟩:=t
 rw [Tm.good,aC] at h
 exact SN h.2
mutual
def kc:Tm→Tm→List Bd→List Bd×Bool
 | .mk h ts,u,s=>if h<0 then (match s.find? (fun b=>b.v == -1 - h) with | some b=>(s,decide (b.t=u)) | none=>(s++[⟨-1 - h,u⟩],true))
  else if h≠u.head∨ts.length≠u.args.length then (s,false) else h_ ts u.args s
def h_:List Tm→List Tm→List Bd→List Bd×Bool
 | [],_,s=>(s,true)
 | _ :: _,[],s=>(s,true)
 | t :: ts,u :: us,s=>if (kc t u s).2=true then h_ ts us (kc t u s).1 else (s,false)
end
@[go_sem] theorem Xhy (l:List Bd):eQ ⟨3,true,40,[.int .i64 0, .int .i64 0, .aU], .struct⟩ (n8 l)=True:=eq_true (by
 refine ⟨fun x hx=>?_,by decide,by decide,rfl⟩
 obtain ⟨t,_,rfl⟩:=bZ.1 hx
 exact ⟨rfl,rfl⟩)
mutual
theorem UK {P:Tm→Prop} (hP:∀ t,P t→∀ u∈t.args,P u):∀ (t u:Tm) (s:List Bd),P u→(∀ b∈s,P b.t)→∀ b∈(kc t u s).1,P b.t
 | .mk h ts,u,s,hu,hs=>by
  rw [kc]
  split
  ·split
   ·exact hs
   ·intro b hb
    rcases aW.1 hb with hb | hb
    ·exact hs b hb
    ·rw [aM.1 hb];exact hu
  ·split
   ·exact hs
   ·exact Tf hP ts u.args s (hP u hu) hs
theorem Tf {P:Tm→Prop} (hP:∀ t,P t→∀ u∈t.args,P u):∀ (ts us:List Tm) (s:List Bd),(∀ u∈us,P u)→(∀ b∈s,P b.t)→∀ b∈(h_ ts us s).1,P b.t
 | [],_,s,_,hs=>by rw [h_];exact hs
 | _ :: _,[],s,_,hs=>by rw [h_];exact hs
 | t :: ts,u :: us,s,hu,hs=>by
  rw [h_]
  have h1:=UK hP t u s (hu u (by simp)) hs
  split
  ·exact Tf hP ts us _ (fun x hx=>hu x (by simp [hx])) h1
  ·exact hs
end
def tq (l:List Tm):Bool:=l.all fun t=>decide (t.check=0)
def wY (p t:List Tm):List Bd×Bool:=if (h_ p t []).2=true then h_ p t [] else ([],false)
def DZ (s:List Bd) (v:Nat):Option Bd:=if (oh s v).head = -1 - (v:Int) then none else some ⟨v,oh s v⟩
def B9 (s:List Bd) (n:Nat):List Bd:=(List.range n).filterMap (DZ s)
def uL (s:List Bd):List Bd:=B9 s 256
def gV (p t:List Tm):List Bd×Bool×Int :=
 if tq p=false∨tq t=false∨p.length≠t.length then ([],false,1) else if (wY p t).2=false then ([],false,0) else (uL (wY p t).1,true,0)
theorem Sm {t u:Tm} (h:u∈t.args):u.depth<t.depth:=by
 obtain ⟨k,ts⟩:=t
 have key:∀ ts:List Tm,u∈ts→u.depth≤Tm.iH ts:=by
  intro ts
  induction ts with
  | nil=>intro h;cases h
  | cons a ts ih =>
   intro h
   rw [Tm.iH]
   rcases aR.1 h with rfl | h
   ·omega
   ·have:=ih h;omega
 have:=key ts h
 rw [Tm.depth];omega
theorem RZ {g:List Sy}:∀ {ts:List Tm},Tm.gW g ts=true→∀ u∈ts,u.known g=true
 | a :: ts,h,u,hu=>by
  rw [Tm.gW,aC] at h
  rcases aR.1 hu with rfl | hu
  ·exact h.1
  ·exact RZ h.2 u hu
theorem Sx {g:List Sy}:∀ {ts:List Tm},Tm.jE g ts=true→∀ u∈ts,u.cE g=false∧u.jD g=true
 | a :: ts,h,u,hu=>by
  rw [Tm.jE,aC,aC,bU] at h
  rcases aR.1 hu with rfl | hu
  ·exact h.1
  ·exact Sx h.2 u hu
theorem Ys4 {g:List Sy} {t:Tm} (hs:gw g=true) (h1:t.check=0) (h2:t.known g=true) (h3:t.jD g=true):t.term g=0:=by
 unfold Tm.term
 rw [if_neg (by rw [hs];simp),if_neg (by simp [h1]),if_neg (by rw [h2];simp),if_neg (by rw [h3];simp)]
theorem U_ {t:Tm} (h1:t.size≤400) (h2:t.depth≤40) (h3:t.good=true):t.check=0:=by
 unfold Tm.check
 rw [if_neg (by omega),if_neg (by omega),if_pos h3]
theorem Zv {g:List Sy} {t:Tm} (h:t.term g=0):∀ u∈t.args,u.term g=0∧u.cE g=false:=fun u hu=>by
 have hs:=Ki h
 obtain ⟨h1,h2,h3⟩:=mW h
 obtain ⟨c1,c2,c3⟩:=p7 h1
 have z1:=tA hu
 have z2:=oM t
 have z3:=Sm hu
 have z4:=qw c3 u hu
 obtain ⟨k,ts⟩:=t
 have AK:Tm.gW g ts=true:=by
  rw [Tm.known] at h2
  simp only [b9,aC,decide_eq_true_eq] at h2
  rcases h2 with h2 | h2
  ·have:=(zk c3).2.2.2 h2
   rw [this] at hu;cases hu
  ·exact h2.2
 obtain ⟨y1,y2⟩:=Sx (by rwa [Tm.jD] at h3) u hu
 exact ⟨Ys4 hs (U_ (by omega) (by omega) z4) (RZ AK u hu) y2,y1⟩
theorem Le {g:List Sy}:∀ t,gM g t→∀ u∈t.args,gM g u:=fun t h u hu=>⟨(Zv h.1 u hu).1,wT (xw h.2) u hu⟩
mutual
def Tm.cv (v:Int):Tm→Nat
 | .mk h ts=>(if h = -1 - v then 1 else 0)+Tm.sT v ts
def Tm.sT (v:Int):List Tm→Nat
 | []=>0
 | t :: ts=>t.cv v+Tm.sT v ts
end
mutual
def Tm.mf (g:List Sy):Tm→Int
 | .mk h ts=>if h<0 then 1 else Tm.pZ g ts (nE g h)
def Tm.pZ (g:List Sy):List Tm→Int→Int
 | [],n=>n
 | t :: ts,n=>Tm.pZ g ts (n+t.mf g)
end
theorem LD (g:List Sy):∀ (ts:List Tm) (n m:Int),Tm.pZ g ts (n+m)=Tm.pZ g ts n+m
 | [],n,m=>rfl
 | t :: ts,n,m=>by rw [Tm.pZ,Tm.pZ,show n+m+t.mf g=n+t.mf g+m by omega,LD g ts]
def fK (a b:Tm):Bool:=b.vars.all fun v=>decide (b.cv v≤a.cv v)
mutual
def Tm.gr (g:List Sy):Tm→Tm→Bool
 | .mk h ts,u=>if fK (.mk h ts) u=false then false else if (Tm.mk h ts).mf g≠u.mf g then decide (u.mf g<(Tm.mk h ts).mf g) else
  if h<0∨u.head<0 then false else if h≠u.head then decide (u.head<h) else Tm.o_ g ts u.args
def Tm.o_ (g:List Sy):List Tm→List Tm→Bool
 | [],_=>false
 | _ :: _,[]=>false
 | t :: ts,u :: us=>if t=u then Tm.o_ g ts us else t.gr g u
end
theorem Yur {g:List Sy} {t u:Tm} (ht:gM g t) (hu:gM g u) (h0 : 0≤t.head) (he:t.head=u.head):t.args.length=u.args.length:=by
 have h1:=Jb (Jj ht).2.2.1 h0
 have h2:=Jb (Jj hu).2.2.1 (by omega)
 rw [he] at h1
 omega
def fk (p:Nat→Bool):Nat→Nat→Option Nat
 | 0,_=>none
 | n+1,k=>if p k then some k else fk p n (k+1)
def JR {α:Type} (same : α→α→Bool) (b:List α) (us:List Bool) (x : α) (k:Nat):Bool:=!us.getD k false&&(match b[k]? with | some y=>same x y | none=>false)
theorem Yxz {α:Type} {same : α→α→Bool} {b:List α} {us:List Bool} {x : α} {k:Nat} (h:k<b.length):JR same b us x k=(!us.getD k false&&same x b[k]):=by simp [JR,h]
def rX (x y:Tm):Bool:=decide (x=y)
def xL {α:Type} (same : α→α→Bool) (b:List α):List α→List Bool→List α
 | [],_=>[]
 | x :: a,us=>match fk (JR same b us x) b.length 0 with
  | none=>x :: xL same b a us
  | some k=>xL same b a (us.set k true)
def gC (l:List Bool):List ae:=l.map .bool
theorem Cl (l:List Bool):(gC l).length=l.length:=by simp [gC]
theorem rW {n:Nat} (l:List Bool):bz n (gC l):=uT fun _ _=>trivial
theorem Iv {l:List Bool} {i:Nat} (h:i<l.length):(gC l).getD i .undef = .bool (l.getD i false):=by simp [gC,List.getD,h]
theorem ZD (n:Nat):List.replicate n (ae.bool false)=gC (List.replicate n false):=by simp [gC]
def oQ {α:Type} (gt : α→α→Bool) (a b:List α):Bool:=(b.all fun y=>a.any fun x=>gt x y)&&decide (0<a.length)
theorem Ylu {α:Type} (gt : α→α→Bool) (a b:List α) (y : α):oQ gt a (y :: b)=((a.any fun x=>gt x y)&&oQ gt a b):=by simp [oQ,Bool.and_assoc]
def tK {α:Type} (same gt : α→α→Bool) (a b:List α):Int :=
 if (xL same b a (List.replicate b.length false)).length+(xL same a b (List.replicate a.length false)).length=0 then 0 else
 if oQ gt (xL same b a (List.replicate b.length false)) (xL same a b (List.replicate a.length false))=true then 1 else
 if oQ gt (xL same a b (List.replicate a.length false)) (xL same b a (List.replicate b.length false))=true then -1 else 2
def xK (g:List Sy) (a b:Li):Int:=tK rX (Tm.gr g) (ko a) (ko b)
def B5 (g:List Sy) (l:Li):Prop:=gM g l.l∧gM g l.r
theorem P4 {g:List Sy} {l:Li} (h:B5 g l):∀ x∈ko l,gM g x:=fun x hx=>by
 rcases IF hx with rfl | rfl
 ·exact h.1
 ·exact h.2
def rB (g:List Sy) (c d:List Li):Int:=tK ew (fun x y=>decide (xK g x y=1)) c d
def gT (l:Li) (n:Int):Tm×Tm:=if n=0 then (l.l,l.r) else (l.r,l.l)
theorem Ysx {P:Tm→Prop} {s:List Bd} (h:∀ b∈s,P b.t) {v:Int} (hv:P (.mk (-1 - v) [])):P (oh s v):=by
 unfold oh
 cases hf:s.find? (fun b=>b.v==v) with
 | some b=>exact h b (bJ hf)
 | none=>exact hv
def oN (x y:Tm):Li:=⟨false,x,y⟩
def wN (g:List Sy) (e:Li) (n:Int) (u:Tm) (c:List Li):Tm×Bool :=
 if (gT e n).1.head=0∨(gT e n).1.cE g≠u.cE g∨within (gT e n).2 (gT e n).1=false then (u,false) else
 if (gV [(gT e n).1] [u]).2.2≠0∨(gV [(gT e n).1] [u]).2.1=false then (u,false) else
 if bf g [oN ((gT e n).1.pd (gV [(gT e n).1] [u]).1) ((gT e n).2.pd (gV [(gT e n).1] [u]).1)]≠0 ∧
  bf g [oN ((gT e n).2.pd (gV [(gT e n).1] [u]).1) ((gT e n).1.pd (gV [(gT e n).1] [u]).1)]≠0 then (u,false) else
 if ((gT e n).1.pd (gV [(gT e n).1] [u]).1).gr g ((gT e n).2.pd (gV [(gT e n).1] [u]).1)=false ∨
  rB g [oN ((gT e n).1.pd (gV [(gT e n).1] [u]).1) ((gT e n).2.pd (gV [(gT e n).1] [u]).1)] c≠-1 then (u,false) else
 ((gT e n).2.pd (gV [(gT e n).1] [u]).1,true)
theorem J5 {g:List Sy} {x y:Tm} (h:bf g [oN x y]=0):x.term g=0∧y.term g=0:=by
 have h1:=(xR h).2.2 (oN x y) (by simp)
 exact Bi h1
theorem US {g:List Sy} {c:List Li} (hc:jm g c):∀ s∈cr c 0,gM g s.t:=fun s hs=>by
 obtain ⟨j,hj,h1,h2,h3⟩:=zT c 0 s hs
 exact F1 Le _ _ _ (FI hc (aE hj) s.rt) h2
end Go.Proofs
