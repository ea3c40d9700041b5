/- Part 46 of my own framework and of the walks of functions: Ss, Sr, St, AcsZa, Su, Sv, Sw, Sx, Sy, Ua, Ub, Uc, Ud, Ue, Uf, Ug, Uh, Ui, Uj, Uk, Ul, Um, Un, Uo, Up, Uq, Ur, Us, Ut, Uu, Uv, Va, Vb, Vc, Vd, Ve, Wa, Wb, Wc, Wd, We, Wf, Wg, Wh. -/
import Derived.Test.YtpgnahcljlclcaaGreatOwn45
import Derived.Shelf.Sort.Plain
import Derived.Shelf.Slices.In.SortNone
import Derived.Test.YtpgnahcljlclcaaGreatProg
set_option linter.unusedVariables false
set_option linter.unusedSectionVars false
set_option linter.unusedSimpArgs false
namespace Go.Proofs
open Go.Shelf
def Tryz.lays189_ren:Go.Shelf.Ren:=⟨fun | 189=>174 | 125=>188 | 257=>187 | 128=>203 | 129=>204 | 294=>194 | 295=>195 | 296=>196 | 297=>197 | 298=>198 | 299=>199 | 216=>200 | 300=>201 | 301=>202 | 328=>207 | 329=>208 | 330=>209 | 331=>210 | 332=>211 | 215=>212 | 343=>213 | n=>n,fun | 28=>31 | 3=>3 | 46=>218 | 0=>0 | 51=>231 | 53=>233 | 4=>4 | 183=>223 | 182=>222 | 131=>228 | 5=>5 | 9=>9 | 218=>234 | 222=>238 | 228=>240 | 229=>241 | n=>n,fun | n=>n⟩
theorem Tryz.lays189:Go.Proofs.Lays.n189 Tryz.prog Tryz.lays189_ren:={
 mixed:=by kernel_rfl
 f125:=Tryz.func188.trans (congrArg some (by kernel_rfl))
 f128:=Tryz.func203.trans (congrArg some (by kernel_rfl))
 f129:=Tryz.func204.trans (congrArg some (by kernel_rfl))
 f189:=Tryz.func174.trans (congrArg some (by kernel_rfl))
 f215:=Tryz.func212.trans (congrArg some (by kernel_rfl))
 f216:=Tryz.func200.trans (congrArg some (by kernel_rfl))
 f257:=Tryz.func187.trans (congrArg some (by kernel_rfl))
 f294:=Tryz.func194.trans (congrArg some (by kernel_rfl))
 f295:=Tryz.func195.trans (congrArg some (by kernel_rfl))
 f296:=Tryz.func196.trans (congrArg some (by kernel_rfl))
 f297:=Tryz.func197.trans (congrArg some (by kernel_rfl))
 f298:=Tryz.func198.trans (congrArg some (by kernel_rfl))
 f299:=Tryz.func199.trans (congrArg some (by kernel_rfl))
 f300:=Tryz.func201.trans (congrArg some (by kernel_rfl))
 f301:=Tryz.func202.trans (congrArg some (by kernel_rfl))
 f328:=Tryz.func207.trans (congrArg some (by kernel_rfl))
 f329:=Tryz.func208.trans (congrArg some (by kernel_rfl))
 f330:=Tryz.func209.trans (congrArg some (by kernel_rfl))
 f331:=Tryz.func210.trans (congrArg some (by kernel_rfl))
 f332:=Tryz.func211.trans (congrArg some (by kernel_rfl))
 f343:=Tryz.func213.trans (congrArg some (by kernel_rfl))
 t0:=Tryz.underlying0
 a0:=Tryz.isAgg0
 z0:=Tryz.sizeOf0
 v0:=Tryz.zeroValue0
 t3:=Tryz.underlying3
 a3:=Tryz.isAgg3
 z3:=Tryz.sizeOf3
 v3:=Tryz.zeroValue3
 t4:=Tryz.underlying4
 a4:=Tryz.isAgg4
 z4:=Tryz.sizeOf4
 v4:=Tryz.zeroValue4
 t5:=Tryz.underlying5
 a5:=Tryz.isAgg5
 z5:=Tryz.sizeOf5
 v5:=Tryz.zeroValue5
 t9:=Tryz.underlying9
 a9:=Tryz.isAgg9
 z9:=Tryz.sizeOf9
 v9:=Tryz.zeroValue9
 t28:=Tryz.underlying31
 a28:=Tryz.isAgg31
 z28:=Tryz.sizeOf31
 v28:=Tryz.zeroValue31
 t46:=Tryz.underlying218
 a46:=Tryz.isAgg218
 z46:=Tryz.sizeOf218
 v46:=Tryz.zeroValue218
 t51:=Tryz.underlying231
 a51:=Tryz.isAgg231
 z51:=Tryz.sizeOf231
 v51:=Tryz.zeroValue231
 t53:=Tryz.underlying233
 a53:=Tryz.isAgg233
 z53:=Tryz.sizeOf233
 v53:=Tryz.zeroValue233
 t131:=Tryz.underlying228
 a131:=Tryz.isAgg228
 z131:=Tryz.sizeOf228
 v131:=Tryz.zeroValue228
 t182:=Tryz.underlying222
 a182:=Tryz.isAgg222
 z182:=Tryz.sizeOf222
 v182:=Tryz.zeroValue222
 t183:=Tryz.underlying223
 a183:=Tryz.isAgg223
 z183:=Tryz.sizeOf223
 v183:=Tryz.zeroValue223
 t218:=Tryz.underlying234
 a218:=Tryz.isAgg234
 z218:=Tryz.sizeOf234
 v218:=Tryz.zeroValue234
 t222:=Tryz.underlying238
 a222:=Tryz.isAgg238
 z222:=Tryz.sizeOf238
 v222:=Tryz.zeroValue238
 t228:=Tryz.underlying240
 a228:=Tryz.isAgg240
 z228:=Tryz.sizeOf240
 v228:=Tryz.zeroValue240
 t229:=Tryz.underlying241
 a229:=Tryz.isAgg241
 z229:=Tryz.sizeOf241
 v229:=Tryz.zeroValue241 }
open Go.Sort Go.RowKit in
theorem Tryz.slices_Sort_int (blk off cap:Nat) (zs:List Int) (w:World) (hH:Holds (Value.int .i64) w blk off zs.toArray) (hblk:blk<w.heap.size) (hsz:zs.length<4611686018427387904) :
  Calls Tryz.prog 174 #[.slice (some ⟨blk,off,none⟩) zs.length cap] w fun e w' =>
   e = .returned (.tuple #[])∧∃ n os,w'=grow (putRow (Value.int .i64) (Sort.ahead w n) blk off (zs.mergeSort fun x y=>decide (x≤y)).toArray) os:=Any.slices_Sort_int Tryz.lays189 blk off cap zs w hH hblk hsz
open Go.RowKit Go.Sort in
theorem Tryz.slices_Sort_int_none (p:Option Addr) (cap:Nat) (w:World) :
  Calls Tryz.prog 174 #[.slice p 0 cap] w fun e w'=>e = .returned (.tuple #[])∧w'=w:=Any.slices_Sort_int_none Tryz.lays189 p cap w
end Go.Proofs
namespace Go.Proofs
open Go Go.Abs
attribute [local go_sem] Nat.reduceAdd Nat.reduceSub Nat.reduceMul Nat.reduceLeDiff Nat.reduceEqDiff Nat.reduceBEq Nat.reduceLT Nat.le_refl Int.natCast_zero Nat.sub_zero List.length_map Int.toNat_natCast Int.natCast_one Int.reduceEq Int.reduceLT Int.reduceLE Int.reduceNe Int.sub_zero Int.zero_add Int.toNat_one
theorem Yum {m n b:Nat} (h:b<m∨n≤b):aw m n (.it b):=fun ρ hρ=>by simp only [ren,hρ b h]
theorem Yl8 {m n:Nat} {ks vs:List AVal} {seen:List Nat} (hk:lowL 0 ks) (hv:lowL 0 vs):awB m n (some (.mit ks vs seen)):=fun ρ hρ y hy=>by
 cases hy;simp only [renB,Za2 hk,Za2 hv]
theorem Zp0 {σ:Store} {x:Option Blk} {n:Nat} (h : σ.length=n):getS (σ++[x]) n=x:=by subst h;simp [getS]
theorem Zyh {σ:Store} {x:Option Blk} {B:Blk} {n:Nat} (h : σ.length=n):setS (σ++[x]) n B = σ++[some B]:=by subst h;simp [setS]
theorem Zj9:∀ (σ τ:Store),leSo σ (σ++τ)
 | [],_=>trivial
 | a :: σ,τ=>⟨.inl rfl,Zj9 σ τ⟩
theorem Yfz (kv:List Int) (vs:List AVal) (hvs:lowL 0 vs) (n0:Nat) (σ0:Store) (S:List Nat→Store) (p:Nat) (y:AVal) (h0 : σ0.length=n0) (hS0 : σ0++[none]=S []) (hlen:∀ i,(S i).length=n0+1) (hget:∀ i,getS (S i) p=some (.var [.pm (ints kv) vs])) (hp:p<n0)
  (hs:∀ i,lowSo (n0+1) (S i)) (hs0:lowSo n0 σ0) (hy0:y.low n0)
  (hy:∀ (seen:List Nat) (j:Nat) (h:j<kv.length),j ∉ seen→seen.Nodup→(∀ i∈seen,i<kv.length)→VCall Tryz.prog y [.int .i64 kv[j]] (S seen) (fun r σ'=>r = .bool true∧n0+1≤σ'.length∧lowSo σ'.length σ'∧∃ π:Nat→Nat,(∀ b,b<n0→π b=b)∧(∀ b b',b<n0+1→b'<n0+1→π b = π b'→b=b')∧leSoR π σ' 0 (S (seen++[j])))) :
  VCall Tryz.prog (.fn 175 [] [.ptr p 0]) [y] σ0 (fun _ σ'=>∃ seen:List Nat,seen.Nodup∧(∀ i,i∈seen↔i<kv.length)∧σ'=S seen):=by
 subst h0
 refine VCall.beginK (rs:=[]) (m:=12) Tryz.func175 rfl rfl rfl rfl rfl ?_
 refine EvK.pad 1 (Nat.le_refl _) (by simp [go_sem,hy0,hp]) hs0 ?_
 rw [show List.replicate 1 (none:Option Blk)=[none] from rfl,hS0]
 refine EvK.go 1000 ?_
 simp only [go_sem,hget,Nat.le_refl]
 rw [Zet,hlen]
 have hmit:∀ seen,lowSo (σ0.length+2) [some (Blk.mit (ints kv) vs seen)]:=fun seen=>⟨⟨Za4 _,Zac (Nat.zero_le _) hvs⟩,trivial⟩
 have hlo2:∀ seen,lowSo (σ0.length+2) (S seen++[some (Blk.mit (ints kv) vs seen)]):=fun seen=>Zas (Zam (by omega) (hs seen)) (hmit seen)
 refine EvK.loopI (ι:={seen:List Nat // seen.Nodup∧∀ i∈seen,i<kv.length}) 1000 (fun q=>mkT 14 [(0,y),(5, .it (σ0.length+1))]) (fun q=>S q.1++[some (.mit (ints kv) vs q.1)]) (fun q=>unseen kv.length q.1) ⟨[],List.nodup_nil,fun i hi=>by cases hi⟩ ?_ (fun q=>by rw [List.length_append,hlen];simp only;omega) ?_
 ·simp only [go_sem,List.length_append,hlen,List.length_cons,List.length_nil,hlo2,Zau (m:=σ0.length+1+1) (Nat.le_add_right _ 2) hy0]
  exact ⟨Za9 _,by omega⟩
 ·rintro ⟨seen,hnd,hlt⟩
  simp only [go_sem]
  have hgm:getS (S seen++[some (Blk.mit (ints kv) vs seen)]) (σ0.length+1)=some (.mit (ints kv) vs seen):=Zp0 (hlen seen)
  refine ⟨σ0.length+1,ints kv,vs,seen,rfl,hgm,fun j hj hn=>?_,fun hall=>?_⟩
  ·rw [Zad] at hj
   rw [Zyh (hlen seen),Zbe hj]
   have hz:AVal.low 0 (vs.getD j .undef):=Zaa hvs j
   obtain ⟨z,hze⟩:∃ z,vs.getD j .undef=z:=⟨_,rfl⟩
   rw [hze] at hz ⊢
   have haw1:aw σ0.length (σ0.length+1) (.tup [.bool true, .int .i64 kv[j],z]):=Zjw (Zau (Nat.zero_le _) (show AVal.low 0 _ from ⟨trivial,trivial,hz,trivial⟩))
   have haw2:aw σ0.length (σ0.length+1) (.tup [.int .i64 kv[j],z]):=Zjw (Zau (Nat.zero_le _) (show AVal.low 0 _ from ⟨trivial,hz,trivial⟩))
   have hnd':(seen++[j]).Nodup:=by
    rw [List.nodup_append]
    exact ⟨hnd,by simp,fun a ha b hb=>by rw [List.mem_singleton.1 hb];exact fun e=>hn (e ▸ ha)⟩
   have hlt':∀ i∈seen++[j],i<kv.length:=fun i hi=>by
    rcases List.mem_append.1 hi with hi | hi
    ·exact hlt i hi
    ·rw [List.mem_singleton.1 hi];exact hj
   have hgm2:getS (S seen++[some (Blk.mit (ints kv) vs (seen++[j]))]) (σ0.length+1)=some (.mit (ints kv) vs (seen++[j])):=Zp0 (hlen seen)
   refine EvK.go 1000 ?_
   simp only [go_sem,hgm2,Zbe hj,hze]
   refine EvK.callS (σ:=S seen) (τ:=[some (Blk.mit (ints kv) vs (seen++[j]))]) (.bool true) trivial (by rw [hlen];exact Nat.le_succ _) ?_ ?_ ?_ ?_ ?_ ?_ ?_ ?_
   ·rw [hlen];exact Zau (Nat.le_succ _) hy0
   ·simp [go_sem]
   ·rw [hlen];exact hs seen
   ·rw [hlen]
    have hit:=Yum (m:=σ0.length) (n:=σ0.length+1) (b:=σ0.length+1) (.inr (Nat.le_refl _))
    simp [go_sem,Zdd,Zem,Zjw,hy0,hit,haw1,haw2]
   ·rw [Zly,Zqe]
    exact ⟨Yl8 (Za4 _) hvs,trivial⟩
   ·rw [hlen]
    have hy1:=Zau (m:=σ0.length+1+1) (Nat.le_add_right _ 2) hy0
    have hvg:=Zau (Nat.zero_le (σ0.length+1+1)) hz
    simp [go_sem,hy1,hvg]
   ·rw [hlen];exact hmit _
   refine (hy seen j hj hn hnd hlt).mono ?_
   rintro r σ' ⟨k1,k2,k3,π,k4,k5,k6⟩
   rw [hlen]
   refine ⟨k1,k2,k3,π,S (seen++[j]),hlen _,k4,k5,k6,hs _,?_⟩
   refine EvK.go 1000 ?_
   simp only [go_sem]
   refine ⟨⟨seen++[j],hnd',hlt'⟩,?_,Zpz hj hn⟩
   simp only [go_sem,List.length_append,hlen,List.length_cons,List.length_nil,hlo2,Zau (m:=σ0.length+1+1) (Nat.le_add_right _ 2) hy0]
   exact ⟨Za9 _,by omega⟩
  ·refine EvK.go 1000 ?_
   simp only [go_sem]
   refine EvK.go 1000 ?_
   simp only [go_sem]
   rw [Zax]
   exact ⟨S seen,Zj9 _ _,by rw [hlen];exact Nat.le_succ _,by rw [hlen];exact hs _,trivial,seen,hnd,fun i=>⟨hlt i,fun h=>hall i (by rw [Zad];exact h)⟩,rfl⟩
def keyL (kv:List Int) (seen:List Nat):List Int:=seen.map fun j=>kv.getD j 0
theorem Zzw {kv:List Int} {seen:List Nat} {j:Nat} (h:j<kv.length):keyL kv (seen++[j])=keyL kv seen++[kv[j]]:=by simp [keyL,List.getD,h]
theorem Yhy (kv:List Int) (seen:List Nat):(keyL kv seen).length=seen.length:=by simp [keyL]
theorem Zmm (kv:List Int) (vs:List AVal) (hvs:lowL 0 vs) (hl:kv.length<100000000) :
  VCall Tryz.prog (.fn 186 [] []) [.nils, .fn 175 [] [.ptr 0 0]] [some (.var [.pm (ints kv) vs])]
   (fun r σ'=>∃ seen:List Nat,seen.Nodup∧(∀ i,i∈seen↔i<kv.length)∧r=slA 3 1 (ints (keyL kv seen))∧σ'=[some (.var [.pm (ints kv) vs]),none,none,slB (ints (keyL kv seen))]):=by
 refine VCall.begin (rs:=[.tmp 4]) (m:=11) 1000 Tryz.func186 rfl rfl rfl rfl rfl ?_
 simp only [go_sem]
 refine EvK.rangeFunc (mkT 13 [(2, .ptr 1 0)]) ?_ ?_ (fun ρ ht hpa hat hbo=>?_)
 ·simp only [go_sem]
 ·exact fun b hb=>by cases hb
 simp only [go_sem]
 have hρl:lowL 3 ρ.tm:=by rw [ht];simp [go_sem,Zd7,Zf1]
 have hst:∀ l:List Int,lowSo 4 [some (.var [.pm (ints kv) vs]),some (.var [slA 3 1 (ints l)]),some (.loop (ρ.at .ready)),slB (ints l)] :=
  fun l=>⟨⟨⟨Za4 _,Zac (Nat.zero_le _) hvs⟩,trivial⟩,⟨Zfk (by decide) 1 _,trivial⟩,Zac (by decide) hρl,Zdo _ (Za4 _),trivial⟩
 refine (Yfz kv vs hvs 3 _ (fun seen=>[some (.var [.pm (ints kv) vs]),some (.var [slA 3 1 (ints (keyL kv seen))]),some (.loop (ρ.at .ready)),slB (ints (keyL kv seen))]) 0 (.yld 2) rfl rfl (fun _=>rfl) (fun _=>rfl) (by decide) (fun k=>hst _) ?_ (Nat.lt_succ_self 2) (fun seen j hj hn hnd hlt=>?_)).mono ?_
 ·exact ⟨⟨⟨Za4 _,Zac (Nat.zero_le _) hvs⟩,trivial⟩,⟨trivial,trivial⟩,hρl,trivial⟩
 ·have hsl:(keyL kv seen).length≤kv.length:=by
   rw [Yhy]
   have h1:seen.length≤(List.range kv.length).length:=List.Nodup.length_le_of_subset hnd fun i hi=>List.mem_range.2 (hlt i hi)
   rwa [List.length_range] at h1
  rw [Zzw hj]
  generalize kv[j]=v at *
  generalize keyL kv seen=L at *
  have hsw:∀ b,b<3→pi [(3,5),(5,3)] b=b:=by decide
  refine VCall.move [(3,5),(5,3)] (S':=[some (.var [.pm (ints kv) vs]),some (.var [.os 5 0 (L.length+1) 1]),some (.loop (ρ.at .ready)),none,none,some (.row (ints L++[.int .i64 v]) 0)]) ?_ ?_ rfl ?_ ?_
  ·exact Nat.le_add_right 4 2
  ·exact ⟨⟨⟨Za4 _,Zac (Nat.zero_le _) hvs⟩,trivial⟩,⟨Nat.lt_succ_self 5,trivial⟩,Zac (Nat.le_add_right 3 3) hρl,trivial,trivial,Zbq (Za4 _) ⟨trivial,trivial⟩,trivial⟩
  ·have hl1:=Zfd (pi [(3,5),(5,3)]) 3 hsw (.loop (ρ.at .ready)) hρl
   simp only [Zex,Zh0,Zh2,Zfw,Zg3,Zk1,hl1]
   simp [go_sem,Za2 hvs,Za2 (Za4 _),Za2 (Zbq (Za4 L) (show lowL 0 [AVal.int .i64 v] from ⟨trivial,trivial⟩)),Zad]
  refine VCall.yieldK 1000 ht hpa hat hbo rfl rfl ?_
  simp only [go_sem,appOk,List.mem_singleton,forall_eq,Nat.zero_lt_one,Ze3,Zad]
  refine ⟨by omega,?_⟩
  rw [Zfe]
  exact ⟨rfl,[some (.var [.pm (ints kv) vs]),some (.var [.os 5 0 (L.length+1) 1]),some (.loop (ρ.at .ready)),none,none,some (.row (ints L++[.int .i64 v]) 0)],by simp [go_sem],Nat.le_add_right 4 2,⟨⟨⟨Za4 _,Zac (Nat.zero_le _) hvs⟩,trivial⟩,⟨Nat.lt_succ_self 5,trivial⟩,Zac (Nat.le_add_right 3 3) hρl,trivial,trivial,Zbq (Za4 _) (show lowL 6 [AVal.int .i64 v] from ⟨trivial,trivial⟩),trivial⟩,rfl,rfl⟩
 rintro r' σ2 ⟨seen,hnd,hall,rfl⟩
 rw [Zst]
 refine ⟨.ready,rfl,?_⟩
 rw [Zfz]
 refine EvK.go 1000 ?_
 simp only [go_sem]
 rw [Zax]
 exact ⟨[some (.var [.pm (ints kv) vs]),none,none,slB (ints (keyL kv seen))],by simp [go_sem],by simp,⟨⟨⟨Za4 _,Zac (Nat.zero_le _) hvs⟩,trivial⟩,trivial,trivial,Zdo _ (Za4 _),trivial⟩,Zfk (show 3<4 by decide) 1 _,seen,hnd,hall,rfl,rfl⟩
theorem Zsm (kv:List Int) (vs:List AVal) (hvs:lowL 0 vs) (hl:kv.length<100000000) :
  VCall Tryz.prog (.fn 173 [] []) [.fn 175 [] [.ptr 0 0]] [some (.var [.pm (ints kv) vs])]
   (fun r σ'=>∃ seen:List Nat,seen.Nodup∧(∀ i,i∈seen↔i<kv.length)∧r=slA 3 1 (ints (keyL kv seen))∧σ'=[some (.var [.pm (ints kv) vs]),none,none,slB (ints (keyL kv seen))]):=by
 refine VCall.begin (rs:=[.tmp 2]) (m:=4) 1000 Tryz.func173 rfl rfl rfl rfl rfl ?_
 simp only [go_sem]
 refine (Zmm kv vs hvs hl).mono ?_
 rintro r σ' ⟨seen,hnd,hall,rfl,rfl⟩
 refine EvK.go 1000 ?_
 simp only [go_sem]
 rw [Zax]
 exact ⟨[some (.var [.pm (ints kv) vs]),none,none,slB (ints (keyL kv seen))],by simp [go_sem],by simp,⟨⟨⟨Za4 _,Zac (Nat.zero_le _) hvs⟩,trivial⟩,trivial,trivial,Zdo _ (Za4 _),trivial⟩,Zfk (show 3<4 by decide) 1 _,seen,hnd,hall,rfl,rfl⟩
def sortI (l:List Int):List Int:=l.mergeSort fun x y=>decide (x≤y)
theorem Zeq (l:List Int):(sortI l).length=l.length:=List.length_mergeSort l
theorem Zxv {a b:List Int} (h:a.Perm b):sortI a=sortI b:=by
 have ht:∀ x y z:Int,decide (x≤y)=true→decide (y≤z)=true→decide (x≤z)=true:=fun x y z h1 h2=>by simp at *;omega
 have hc:∀ x y:Int,(decide (x≤y)||decide (y≤x))=true:=fun x y=>by simp;omega
 refine List.Perm.eq_of_pairwise (le:=fun x y=>decide (x≤y)=true) (fun x y _ _ h1 h2=>by simp at h1 h2;omega) (List.pairwise_mergeSort ht hc a) (List.pairwise_mergeSort ht hc b) ?_
 exact (List.mergeSort_perm a _).trans (h.trans (List.mergeSort_perm b _).symm)
theorem Zyu {kv:List Int} {seen:List Nat} (hnd:seen.Nodup) (hall:∀ i,i∈seen↔i<kv.length):(keyL kv seen).Perm kv:=by
 have h1:seen.Perm (List.range kv.length):=(List.perm_ext_iff_of_nodup hnd List.nodup_range).2 fun i=>by rw [hall,List.mem_range]
 have h2:=h1.map fun j=>kv.getD j 0
 have h3:(List.range kv.length).map (fun j=>kv.getD j 0)=kv:=by
  apply List.ext_getElem (by simp)
  intro i h4 h5
  simp [List.getD,h5]
 rw [h3] at h2
 exact h2
theorem Ydf {b sz:Nat} {l l':List AVal} (h:l.length=l'.length):slA b sz l=slA b sz l':=by
 cases l with
 | nil=>cases l' with
  | nil=>rfl
  | cons x l'=>simp at h
 | cons y l=>cases l' with
  | nil=>simp at h
  | cons x l'=>simp only [Zhc];rw [show l.length=l'.length by simpa using h]
theorem Zvv (kv:List Int) (vs:List AVal) (hvs:lowL 0 vs) (hl:kv.length<100000000) :
  VCall Tryz.prog (.fn 156 [] []) [.fn 175 [] [.ptr 0 0]] [some (.var [.pm (ints kv) vs])]
   (fun r σ'=>r=slA 3 1 (ints (sortI kv))∧σ'=[some (.var [.pm (ints kv) vs]),none,none,slB (ints (sortI kv))]):=by
 refine VCall.begin (rs:=[.tmp 2]) (m:=8) 1000 Tryz.func156 rfl rfl rfl rfl rfl ?_
 simp only [go_sem]
 refine (Zsm kv vs hvs hl).mono ?_
 rintro r σ' ⟨seen,hnd,hall,rfl,rfl⟩
 have hpe:=Zyu hnd hall
 rw [← Zxv hpe]
 have hln:=hpe.length_eq
 generalize keyL kv seen=L at *
 have hcall:∀ K:AVal→Store→Prop,K (.tup []) [some (.var [.pm (ints kv) vs]),none,none,slB (ints (sortI L))]→VCall Tryz.prog (.fn 174 [] []) [slA 3 1 (ints L)] [some (.var [.pm (ints kv) vs]),none,none,slB (ints L)] K:=fun K hK=>by
  cases L with
  | nil =>
   rw [show ints []=[] from rfl,Zcd,Zc7]
   refine VCall.sortNil Tryz.func174 rfl rfl (fun a cap w=>Tryz.slices_Sort_int_none a cap w) ?_
   rw [show sortI []=[] from List.eq_nil_of_length_eq_zero (Zeq []),show ints []=[] from rfl,Zc7] at hK
   exact hK
  | cons v L =>
   have hne:ints (v :: L)≠[]:=by simp [ints]
   have hne2:ints (sortI (v :: L))≠[]:=by
    intro e
    have:=congrArg List.length e
    rw [Zad,Zeq] at this;simp at this
   rw [Zkh hne,Zij hne,Zad]
   rw [Zij hne2] at hK
   exact VCall.sortRow (zs:=v :: L) (ts:=sortI (v :: L)) Tryz.func174 rfl rfl rfl (Zeq _) (fun w blk off cap hH hb=>Tryz.slices_Sort_int blk off cap _ w hH hb (by omega)) (fun a cap w=>Tryz.slices_Sort_int_none a cap w) hK
 refine EvK.go 1000 ?_
 simp only [go_sem]
 refine hcall _ ?_
 refine EvK.go 1000 ?_
 simp only [go_sem]
 rw [Zax,Ydf (l':=ints (sortI L)) (by rw [Zad,Zad,Zeq])]
 exact ⟨[some (.var [.pm (ints kv) vs]),none,none,slB (ints (sortI L))],by simp [go_sem],by simp,⟨⟨⟨Za4 _,Zac (Nat.zero_le _) hvs⟩,trivial⟩,trivial,trivial,Zdo _ (Za4 _),trivial⟩,Zfk (show 3<4 by decide) 1 _,rfl,rfl⟩
end Go.Proofs
namespace Go.Abs
open Go
section
variable {P:Program} {lo:Ctx} {Q:AExit→St→Prop} {tm:List AVal} {σ:Store} {q:Nat} {ks vs:List AVal} {fz:Bool}
theorem Zzg {X:Nat→Nat→Prop} {base mb:Nat} {D:List Deferred} {β:Env} {a:Act} {w:World} (hb:getS σ q=some (.map ks vs fz)) (h3:Rel X base mb D ⟨tm,σ⟩ β a w):Rel X base mb D ⟨tm.map (frM q ks vs),σ.set q none⟩ β a w:=by
 refine ⟨h3.s.less (fun c x hc=>(Zkv hc).2) List.length_set,by simpa using h3.n,fun k hk=>?_,h3.d⟩
 simp only [List.length_map] at hk
 have:=Ycl h3.s (Zae hb) (h3.t k hk)
 simpa [List.getD_eq_getElem?_getD,hk] using this
theorem Yb0 {n:Nat} {β β':Env} {w w':World} {σ':Store} (g3:Ext n (σ.set q none) β w σ' β' w'):Ext n σ β w σ' β' w' :=
 ⟨g3.os,g3.tape,g3.output,g3.size,fun g o v hc hn=>g3.cell g o v hc (fun hm=>hn (Zjq hm)),fun g hg hn=>g3.block g hg (fun o hm=>hn o (Zjq hm)),fun g o hm=>(g3.newM g o hm).imp Zjq id,g3.env⟩
theorem EvK.frzM {all:Array Oper} {l:List Oper} {k:List KI} (hb:getS σ q=some (.map ks vs fz)) (he:EvK P lo Q (.ops all l :: k) .normal ⟨tm.map (frM q ks vs),σ.set q none⟩):EvK P lo Q (.ops all l :: k) .normal ⟨tm,σ⟩:=by
 simp only [EvK] at he ⊢
 refine fun hs=>?_
 intro X base mb D β a w b k cs h1 h2 h3
 obtain ⟨e1,st1,β1,a1,w1,q,g1,g2,g3,g4⟩:=(he hs) X base mb D β a w b k cs (by simpa using h1) h2 (Zzg hb h3)
 exact ⟨e1,st1,β1,a1,w1,q,g1,g2,Yb0 g3,g4⟩
end
section
variable {q:Nat} {ks vs:List AVal}
@[go_sem] theorem Ytl {b o:Nat}:frM q ks vs (.ptr b o) = .ptr b o:=rfl
@[go_sem] theorem Yxe {b o n s:Nat}:frM q ks vs (.os b o n s) = .os b o n s:=rfl
@[go_sem] theorem Ypb:frM q ks vs .undef = .undef:=rfl
@[go_sem] theorem Yt1 {b:Bool}:frM q ks vs (.bool b) = .bool b:=rfl
@[go_sem] theorem Yua {k:IntKind} {n:Int}:frM q ks vs (.int k n) = .int k n:=rfl
@[go_sem] theorem Yym {s:Nat} {l:List AVal}:frM q ks vs (.ps s l) = .ps s l:=rfl
@[go_sem] theorem Yt4:frM q ks vs .nils = .nils:=rfl
@[go_sem] theorem Yu2 {l:List AVal}:frM q ks vs (.agg l) = .agg l:=rfl
@[go_sem] theorem Ytt {l:List AVal}:frM q ks vs (.tup l) = .tup l:=rfl
@[go_sem] theorem Yuc:frM q ks vs (.map q) = .pm ks vs:=if_pos rfl
@[go_sem] theorem Yva {g:FuncId} {a c:List AVal}:frM q ks vs (.fn g a c) = .fn g a c:=rfl
end
theorem VCall.embedB {P:Program} {F:Frame→List Frame→Sem Next→World→Value→World→Prop} {f f':AVal} {args args':List AVal} {K K':AVal→Store→Prop} {Z σ:Store} (ι:Nat→Nat) (hι:∀ b b',b<Z.length→b'<Z.length→ι b = ι b'→b=b') (hb:∀ b,b<Z.length→ι b < σ.length)
  (hσ:∀ b,b<Z.length→∃ o,Z[b]? = some o∧σ[ι b]? = some (o.map (renB ι))) (hf:f.low Z.length) (hf':ren ι f=f') (ha:lowL Z.length args) (ha':renL ι args=args') (hs:lowSo Z.length Z)
  (h:VCallG P F f args Z K') (hk:∀ r Z',K' r Z'→Z.length≤Z'.length∧lowSo Z'.length Z'∧r.low Z'.length∧K (ren (emb ι Z.length σ.length) r) (embS ι Z.length Z' σ)):VCallG P F f' args' σ K:=by
 have:=VCall.embed (K:=K) ι hι hb hσ hf ha hs (h.mono hk)
 rwa [hf',ha'] at this
section
variable {P:Program} {lo:Ctx} {Q:AExit→St→Prop} {tm:List AVal} {σ:Store} {q b:Nat} {ks vs cs:List AVal} {fz:Bool} {X:Nat→Nat→Prop} {base:Nat} {β:Env} {w:World}
theorem RelS.reblkM (hr:RelS X base σ β w) {b:Nat} {x y:Blk} (hb:getS σ b=some x) (hm:∀ L o,y.mut L o↔x.mut L o) (hok:∀ L,β b=some L→BlkOk w (MT X σ β) β L x→BlkOk w (MT X σ β) β L y):RelS X base (setS σ b y) β w:=by
 have hb':=Zae hb
 have hlt:b < σ.length:=(List.getElem?_eq_some_iff.1 hb').1
 have hset:setS σ b y = σ.set b (some y):=by unfold setS;rw [if_pos hlt]
 have hM:MT X (setS σ b y) β=MT X σ β:=funext fun g=>funext fun o=>propext (by unfold MT;rw [Zcn hb hm])
 have hget:∀ c z,(setS σ b y)[c]? = some (some z)→(c=b∧z=y)∨σ[c]? = some (some z):=fun c z h=>by
  rw [hset,List.getElem?_set] at h
  split at h
  ·rename_i e;subst e;cases h;exact .inl ⟨rfl,rfl⟩
  ·exact .inr h
 have hsome:∀ c z,(setS σ b y)[c]? = some (some z)→∃ z',σ[c]? = some (some z'):=fun c z h=>by
  rcases hget c z h with ⟨rfl,rfl⟩ | h
  ·exact ⟨x,hb'⟩
  ·exact ⟨z,h⟩
 refine ⟨fun c hc=>hr.dom c (by rw [Zdb hb] at hc;exact hc),fun c z hc=>?_,fun c c' z z' L L' h1 h2 h3 h4 h5=>?_,hr.size,hr.xlt,hr.gl⟩
 ·rw [hM]
  rcases hget c z hc with ⟨rfl,rfl⟩ | h
  ·obtain ⟨L,q1,q2,q3,q4⟩:=hr.blk c x hb'
   exact ⟨L,q1,q2,q3,hok L q1 q4⟩
  ·exact hr.blk c z h
 ·obtain ⟨u,hu⟩:=hsome c z h1
  obtain ⟨u',hu'⟩:=hsome c' z' h2
  exact hr.inj c c' u u' L L' hu hu' h3 h4 h5
theorem Yg6 {mb:Nat} {D:List Deferred} {a:Act} (hq:getS σ q=some (.map ks vs fz)) (hb:getS σ b=some (.var cs)) (hne:b≠q) (h3:Rel X base mb D ⟨tm,σ⟩ β a w) :
  Rel X base mb D ⟨tm.map (frM q ks vs),setS (σ.set q none) b (.var (cs.map (frM q ks vs)))⟩ β a w:=by
 have h1:=Zzg hq h3
 have hb1:getS (σ.set q none) b=some (.var cs):=by rw [getS,List.getElem?_set_ne (fun e=>hne e.symm)];exact hb
 have hm:∀ L o,(Blk.var (cs.map (frM q ks vs))).mut L o↔(Blk.var cs).mut L o:=fun L o=>by simp [Blk.mut]
 have hM:MT X (setS (σ.set q none) b (.var (cs.map (frM q ks vs)))) β=MT X (σ.set q none) β:=funext fun g=>funext fun o=>propext (by unfold MT;rw [Zcn hb1 hm])
 refine ⟨RelS.reblkM h1.s hb1 hm fun L hL hok=>?_,h1.n,fun k hk=>by rw [hM];exact h1.t k hk,h1.d⟩
 obtain ⟨c,e,k1,k2,k3,k4⟩:=hok
 refine ⟨c,e,k1,k2,by simpa using k3,fun k hk=>?_⟩
 simp only [List.length_map] at hk
 have k5:=k4 k hk
 have hg:(cs.map (frM q ks vs)).getD k .undef=frM q ks vs (cs.getD k .undef):=by simp [List.getD,hk]
 rw [hg]
 generalize cs.getD k .undef=x at k5
 generalize c.getD k undef=vv at k5
 cases x with
 | map c' =>
  refine Ycl h3.s (Zae hq) ?_
  cases k5 with
  | map hh=>exact .map hh
 | _=>exact k5
theorem Yfq {n:Nat} {β':Env} {w':World} {σ':Store} (hb:getS σ b=some (.var cs)) (hne:b≠q) (g3:Ext n (setS (σ.set q none) b (.var (cs.map (frM q ks vs)))) β w σ' β' w'):Ext n σ β w σ' β' w':=by
 have hb1:getS (σ.set q none) b=some (.var cs):=by rw [getS,List.getElem?_set_ne (fun e=>hne e.symm)];exact hb
 exact Yb0 (Ext.reblk hb1 (fun L o=>by simp [Blk.mut]) g3)
theorem EvK.frzMB {all:Array Oper} {l:List Oper} {k:List KI} (hq:getS σ q=some (.map ks vs fz)) (hb:getS σ b=some (.var cs)) (hne:b≠q)
  (he:EvK P lo Q (.ops all l :: k) .normal ⟨tm.map (frM q ks vs),setS (σ.set q none) b (.var (cs.map (frM q ks vs)))⟩):EvK P lo Q (.ops all l :: k) .normal ⟨tm,σ⟩:=by
 have hb1:getS (σ.set q none) b=some (.var cs):=by rw [getS,List.getElem?_set_ne (fun e=>hne e.symm)];exact hb
 simp only [EvK] at he ⊢
 refine fun hs=>?_
 intro X base mb D β a w b k cs h1 h2 h3
 obtain ⟨e1,st1,β1,a1,w1,q,g1,g2,g3,g4⟩:=(he hs) X base mb D β a w b k cs (by simp only;rw [Zdb hb1];simpa using h1) h2 (Yg6 hq hb hne h3)
 exact ⟨e1,st1,β1,a1,w1,q,g1,g2,Yfq hb hne g3,g4⟩
end
end Go.Abs
namespace Go.Proofs
open Go Go.Abs
attribute [local go_sem] Nat.reduceAdd Nat.reduceSub Nat.reduceMul Nat.reduceLeDiff Nat.reduceEqDiff Nat.reduceBEq Nat.reduceLT Nat.le_refl Int.natCast_zero Nat.sub_zero List.length_map Int.toNat_natCast Int.natCast_one Int.reduceEq Int.reduceLT Int.reduceLE Int.reduceNe Int.sub_zero Int.zero_add Int.toNat_one
def wrongM (l:List Tm):Bool:=l.any fun t=>!decide (t.check=0)
theorem Zvk (t:Tm) (ht:t.size<99999999) (σ:Store) (hs:lowSo σ.length σ):VCall Tryz.prog (.fn 172 [] []) [t.toA] σ (fun r σ'=>r = .bool (!decide (t.check=0))∧σ' = σ):=by
 have h:CallEq Tryz.prog 172 [t.toA] (.bool (!decide (t.check=0))):=by
  refine CallEq.begin (rs:=[.tmp 2]) (m:=5) 1000 Tryz.func172 rfl rfl rfl (by decide) trivial ?_
  have hck:=Zfi t (by omega)
  simp only [go_sem,Za8]
  refine VCall.isoT [] (hck) (by (try simp only [Za6]);exact Za1 _ _ _) (by simp [go_sem,Za7,Za0]) ?_;simp only [flatR,flatA,flatC,if_true];refine EvK.go 1000 ?_
  by_cases h:t.check=0
  ·simp only [go_sem,h]
  ·simp only [go_sem,h]
 refine VCall.isoT [] h (Za1 _ _ _) (by simp [go_sem,Za7]) ?_
 rw [Zah];simp only [ite_self]
 exact ⟨trivial,trivial⟩
theorem Zpn (l:List Tm) (hl:l.length<99999999) (ht:∀ t∈l,t.size<99999999):CallEq Tryz.prog 154 [.ps 2 (l.map Tm.toA)] (.bool (wrongM l)):=by
 refine CallEq.begin (rs:=[.tmp 2]) (m:=4) 1000 Tryz.func154 rfl rfl rfl (by decide) trivial ?_
 simp only [go_sem]
 refine (Zdy [] (.fn 172 [] []) (fun t=>!decide (t.check=0)) l (by omega) trivial ⟨trivial,trivial⟩ (fun i h=>Zvk _ (ht _ (List.getElem_mem h)) [] trivial)).mono ?_
 rintro r σ' ⟨rfl,rfl⟩
 refine EvK.go 1000 ?_
 simp only [go_sem,wrongM]
def stOk (s:List (Tm×Tm)):Prop:=∀ x∈s,x.1.fit∧x.2.fit∧x.2.size<99999999
def tabOk (m:List Bd):Prop:=∀ b∈m,0≤b.v∧b.v≤9223372036854775807∧b.t.fit∧b.t.size<99999999
theorem Zzn {x:Tm×Tm} {r:List (Tm×Tm)} (h:stOk (x :: r)):stOk ((x.1.args.zip x.2.args).reverse++r):=by
 intro y hy
 obtain ⟨h1,h2,h3⟩:=h x (by simp)
 rcases List.mem_append.1 hy with hy | hy
 ·have hy:=List.mem_reverse.1 hy
  have a1:=Zbl (List.of_mem_zip hy).2
  have a2:=Zay x.2
  exact ⟨Zca (Zcx h1) _ (List.of_mem_zip hy).1,Zca (Zcx h2) _ (List.of_mem_zip hy).2,by omega⟩
 ·exact h y (by simp [hy])
theorem Yim:∀ (s:List (Tm×Tm)) (m m':List Bd),gat s m=some m'→stOk s→tabOk m→(m.map Bd.v).Nodup→tabOk m'∧(m'.map Bd.v).Nodup∧m'.length≤m.length+stN s:=by
 intro s m
 induction s,m using gat.induct with
 | case1 m =>
  intro m' h h1 h2 h3
  rw [gat] at h
  cases h
  exact ⟨h2,h3,by simp [stN]⟩
 | case2 x r m hv c hf he ih =>
  intro m' h h1 h2 h3
  rw [gat,if_pos hv,hf] at h
  simp only [if_pos he] at h
  obtain ⟨a1,a2,a3⟩:=ih m' h (fun y hy=>h1 y (by simp [hy])) h2 h3
  exact ⟨a1,a2,by simp only [stN];omega⟩
 | case3 x r m hv c hf he =>
  intro m' h
  rw [gat,if_pos hv,hf] at h
  simp only [if_neg he] at h
  cases h
 | case4 x r m hv hf ih =>
  intro m' h h1 h2 h3
  rw [gat,if_pos hv,hf] at h
  simp only at h
  obtain ⟨b1,b2,b3⟩:=h1 x (by simp)
  have hfh:=Zj2 b1
  unfold In64 at hfh
  have hp:=Zdk x.1
  obtain ⟨a1,a2,a3⟩:=ih m' h (fun y hy=>h1 y (by simp [hy])) (fun b hb=>by
   rcases List.mem_append.1 hb with hb | hb
   ·exact h2 b hb
   ·rw [List.mem_singleton.1 hb];exact ⟨hv,by simp only;omega,b2,b3⟩) (by
   rw [List.map_append,List.nodup_append]
   refine ⟨h3,by simp,fun u hu w hw=>?_⟩
   simp only [List.map_cons,List.map_nil,List.mem_singleton] at hw
   subst hw
   obtain ⟨b,hb,rfl⟩:=List.mem_map.1 hu
   intro e
   exact absurd (by simpa using e) (List.find?_eq_none.1 hf b hb))
  refine ⟨a1,a2,?_⟩
  simp only [stN,List.length_append,List.length_cons,List.length_nil] at a3 ⊢;omega
 | case5 x r m hv hc =>
  intro m' h
  rw [gat,if_neg hv,if_pos hc] at h
  cases h
 | case6 x r m hv hc ih =>
  intro m' h h1 h2 h3
  rw [gat,if_neg hv,if_neg hc] at h
  obtain ⟨a1,a2,a3⟩:=ih m' h (Zzn h1) h2 h3
  have:=Ziz x.1 x.2 r
  exact ⟨a1,a2,by simp only [stN];omega⟩
theorem Yge {a b:List Tm} (hfa:Tm.fits a) (hfb:Tm.fits b) (hsb:Tm.sizes b<99999999):stOk (a.zip b).reverse:=fun x hx=>by
 have hx:=List.mem_reverse.1 hx
 have:=Zbl (List.of_mem_zip hx).2
 exact ⟨Zca hfa _ (List.of_mem_zip hx).1,Zca hfb _ (List.of_mem_zip hx).2,by omega⟩
theorem Yeb (σ:Store) (b sz:Nat) (l:List AVal):lenA .slice σ (slA b sz l)=some l.length:=by
 cases l<;>rfl
theorem Zso (bs:List Bd) (v:Int) (z:AVal):lookupIn (tabK bs) (tabV bs) z (.int .i64 v) false=match bs.find? (fun b=>b.v==v) with | some b=>b.t.toA | none=>z:=by
 have h:=Zfl v bs 0
 unfold lookupIn
 cases hk:findK (.int .i64 v) (tabK bs) 0 with
 | some i =>
  rw [hk] at h
  obtain ⟨_,b,h2,h3⟩:=h
  rw [h3]
  simp only [Bool.false_eq_true,if_false,tabV,List.getD,List.getElem?_map]
  rw [Nat.sub_zero] at h2
  rw [h2];rfl
 | none =>
  rw [hk] at h
  rw [show bs.find? (fun b=>b.v==v)=none from h];rfl
def tidyP (m:List Bd) (ks:List Int):List Bd:=ks.filterMap fun v=>match m.find? (fun c=>c.v==v) with | some c=>if c.t.head = -1 - v then none else some ⟨v,c.t⟩ | none=>none
def matP (a b:List Tm):List Bd×Bool×Int :=
 if a.length≠b.length∨wrongM a=true∨wrongM b=true then ([],false,1) else
  match gat (a.zip b).reverse [] with
  | none=>([],false,0)
  | some m=>(tidyP m (sortI (m.map Bd.v)),true,0)
theorem Yh5 (kv:List Int) (vs:List AVal) (hvs:lowL 0 vs) (σ:Store) (hs:lowSo σ.length σ):VCall Tryz.prog (.fn 157 [] []) [.pm (ints kv) vs] σ
  (fun r σ'=>r = .fn 175 [] [.ptr σ.length 0]∧σ' = σ++[some (.var [.pm (ints kv) vs])]):=by
 refine VCall.begin (rs:=[.tmp 2]) (m:=3) 1000 Tryz.func157 rfl rfl rfl rfl rfl ?_
 simp only [go_sem]
 rw [Zet,Zax]
 exact ⟨_,Za9 _,by simp,Zas (Zam (by simp) hs) ⟨⟨⟨Za4 _,Zac (Nat.zero_le _) hvs⟩,trivial⟩,trivial⟩,by simp [go_sem],rfl,rfl⟩
theorem Zql (m:List Bd):tabK m=ints (m.map Bd.v):=by simp [tabK,ints]
theorem Yiy (a b:List Tm) (hne:a≠[]) (hs:Tm.sizes a<99999999) (hsb:Tm.sizes b<99999999) (hfa:Tm.fits a) (hfb:Tm.fits b) :
  CallEq Tryz.prog 119 [.ps 2 (a.map Tm.toA), .ps 2 (b.map Tm.toA)] (.tup [.ps 3 (bds (matP a b).1), .bool (matP a b).2.1, .int .i64 (matP a b).2.2]):=by
 refine CallEq.begin (rs:=[.tmp 4, .tmp 5, .tmp 6]) (m:=53) 1000 Tryz.func119 rfl rfl rfl (by decide) (by simp [go_sem]) ?_
 have hal:=Zaj a
 have hbl:=Zaj b
 have hwa:=Zpn a (by omega) (fun t ht=>by have:=Zbl ht;omega)
 have hwb:=Zpn b (by omega) (fun t ht=>by have:=Zbl ht;omega)
 by_cases h1:a.length=b.length
 ·have h1':(a.length:Int)=b.length:=by omega
  simp only [go_sem,List.length_map,h1']
  refine VCall.isoT [] (hwa) (Za1 _ _ _) (by simp [go_sem,Za0]) ?_;simp only [flatR,flatA,flatC,if_true];refine EvK.go 1000 ?_
  cases h2:wrongM a with
  | true =>
   have hm:matP a b=([],false,1):=by unfold matP;rw [if_pos (.inr (.inl h2))]
   rw [hm]
   simp only [go_sem,show bds []=[] from rfl]
  | false =>
   simp only [go_sem]
   refine VCall.isoT [] (hwb) (Za1 _ _ _) (by simp [go_sem,Za0]) ?_;simp only [flatR,flatA,flatC,if_true];refine EvK.go 1000 ?_
   cases h3:wrongM b with
   | true =>
    have hm:matP a b=([],false,1):=by unfold matP;rw [if_pos (.inr (.inr h3))]
    rw [hm]
    simp only [go_sem,show bds []=[] from rfl]
   | false =>
    have hm:matP a b=match gat (a.zip b).reverse [] with | none=>([],false,0) | some m=>(tidyP m (sortI (m.map Bd.v)),true,0):=by
     unfold matP;rw [if_neg (by simp [h1,h2,h3])]
    rw [hm]
    simp only [go_sem]
    refine (Yd4 _ a b rfl hne h1 hs hsb hfa hfb).mono ?_
    cases hg:gat (a.zip b).reverse [] with
    | none =>
     intro r σ' hr
     obtain rfl:r = .bool false:=hr
     refine EvK.go 1000 ?_
     simp only [go_sem,show bds []=[] from rfl]
    | some m =>
     rintro r σ' ⟨rfl,rfl⟩
     refine EvK.frzM (q:=0) (ks:=tabK m) (vs:=tabV m) (fz:=false) rfl ?_
     refine EvK.go 1000 ?_
     simp only [go_sem,List.map_cons,List.map_nil]
     rw [Zql]
     refine (Yh5 _ _ (Zb3 m).2 [none] ⟨trivial,trivial⟩).mono ?_
     rintro r σ' ⟨rfl,rfl⟩
     refine EvK.go 1000 ?_
     simp only [go_sem]
     obtain ⟨hok,hnd,hmlen⟩:=Yim _ _ _ hg (Yge hfa hfb hsb) (fun b hb=>by cases hb) (by simp)
     have hzl:=Zmq a b
     rw [Zmp,List.length_nil] at hmlen
     have hml:(m.map Bd.v).length<100000000:=by rw [List.length_map];omega
     have hmk:∀ v∈sortI (m.map Bd.v), ∃ c,m.find? (fun c=>c.v==v)=some c∧c.v=v∧c∈m:=fun v hv=>by
      have hv:=(List.mergeSort_perm _ _).mem_iff.1 hv
      obtain ⟨c,hc,rfl⟩:=List.mem_map.1 hv
      cases hf:m.find? (fun d=>d.v==c.v) with
      | none=>exact absurd (by simp) (List.find?_eq_none.1 hf c hc)
      | some d=>exact ⟨d,rfl,by simpa using List.find?_some hf,List.mem_of_find?_eq_some hf⟩
     have hso:=Zvv (m.map Bd.v) (tabV m) (Zb3 m).2 hml
     generalize hkv:m.map Bd.v=kv at *
     refine VCall.embed (f:=.fn 156 [] []) (args:=[.fn 175 [] [.ptr 0 0]]) (Z:=[some (.var [.pm (ints kv) (tabV m)])]) (fun b=>b+1) (fun b b' h1 h2 e=>by omega) (fun b hb=>by simp at hb;subst hb;simp) (fun b hb=>?_) ⟨trivial,trivial⟩ ⟨⟨trivial,⟨Nat.zero_lt_succ 0,trivial⟩⟩,trivial⟩ ⟨⟨⟨Za4 _,(Zb3 m).2⟩,trivial⟩,trivial⟩ (hso.mono ?_)
     ·simp at hb;subst hb
      refine ⟨_,rfl,?_⟩
      simp [renB,renL,ren,Za2 (Za4 _),Za2 (Zb3 m).2]
     rintro r σ' ⟨rfl,rfl⟩
     refine ⟨by simp,⟨⟨⟨Za4 _,Zac (Nat.zero_le _) (Zb3 m).2⟩,trivial⟩,trivial,trivial,Zdo _ (Za4 _),trivial⟩,Zfk (show 3<4 by decide) 1 _,?_⟩
     simp only [go_sem,embS,setAll,emb,List.map_cons,List.map_nil]
     rw [Za2 (Za4 _),Za2 (Zb3 m).2]
     have hsl:Option.map (renB (emb (fun b=>b+1) 1 2)) (slB (ints (sortI kv)))=slB (ints (sortI kv)):=by
      cases hq:ints (sortI kv) with
      | nil=>rfl
      | cons x l =>
       have hl0:lowL 0 (ints (sortI kv)):=Za4 _
       rw [Zg0,Option.map_some,Zdv,← hq,Za2 hl0]
     rw [hsl]
     refine EvK.go 1000 ?_
     simp only [go_sem,Yeb,Zad]
     obtain ⟨K,hK⟩:∃ K,sortI kv=K:=⟨_,rfl⟩
     have hKl:K.length=kv.length:=by rw [← hK,Zeq]
     rw [hK] at hmk ⊢
     refine EvK.loopR (ι:={q:Nat×List Bd // q.1≤K.length∧q.2++tidyP m (K.drop q.1)=tidyP m K∧q.2.length≤q.1}) 1000
      (fun q=>mkT 55 [(4, .nils),(5, .bool false),(6, .int .i64 0),(7, .pm (ints kv) (tabV m)),(8,slA 5 3 (bds q.1.2)),(32,slA 4 1 (ints K)),(33, .int .i64 K.length),(34, .int .i64 q.1.1)])
      (fun q=>[none,none,none,none,slB (ints K),slB (bds q.1.2)]) (fun q=>K.length - q.1.1) ⟨(0,[]),by simp⟩ [] ?_ (fun _=>Nat.zero_le _) ?_
     ·refine Zb0 rfl ?_
      simp only [go_sem,show bds []=[] from rfl,Zcd,Zc7,(Zb3 m).2,Zac (Nat.zero_le 6) (Zb3 m).2,Za4,Za2 (Zb3 m).2,Za2 (Za4 _)]
     ·rintro ⟨⟨i,L⟩,hi,hpre,hLi⟩
      simp only at hi hpre hLi
      by_cases hlt:(i:Int)<K.length
      ·have hlt':i<K.length:=by omega
       have hw:IntKind.i64.wrap ((i:Int)+1)=((i+1:Nat):Int):=by rw [Zab (by omega)];omega
       have hneK:ints K≠[]:=by intro e;have:=congrArg List.length e;rw [Zad] at this;simp at this;rw [this] at hlt';simp at hlt'
       have hgk:=Zbe hlt'
       obtain ⟨c,hc1,hc2,hc3⟩:=hmk _ (List.getElem_mem hlt')
       rw [List.drop_eq_getElem_cons hlt'] at hpre
       obtain ⟨v,hv⟩:∃ v,K[i]=v:=⟨_,rfl⟩
       rw [hv] at hgk hc1 hc2 hpre
       obtain ⟨o1,o2,o3,o4⟩:=hok c hc3
       have hwv:IntKind.i64.wrap (-1 - v) = -1 - v:=Zab (by omega)
       have hlk:=Zso m v (.agg [.int .i64 0, .nils])
       rw [hc1] at hlk
       simp only at hlk
       have hsm:=Zdh m v
       rw [Zql,hkv] at hlk hsm
       by_cases hid:c.t.head = -1 - v
       ·have htd:tidyP m (v :: K.drop (i+1))=tidyP m (K.drop (i+1)):=by simp [tidyP,hc1,hid]
        rw [htd] at hpre
        simp only [go_sem,hlt,Zkh hneK,Zij hneK,Zad,hgk,hsm,hlk,Za6,hwv,hid,hw]
        refine ⟨by omega,hlt',⟨(i+1,L),by simp only;omega,hpre,by simp only;omega⟩,[],Zb0 rfl ?_,by simp only;omega⟩
        simp only [go_sem,(Zb3 m).2,Zac (Nat.zero_le 6) (Zb3 m).2,Za4,Za2 (Zb3 m).2,Za2 (Za4 _),Zhw,Zka (of_eq_true (Zhw L))]
       ·have htd:tidyP m (v :: K.drop (i+1))=⟨v,c.t⟩ :: tidyP m (K.drop (i+1)):=by simp [tidyP,hc1,hid]
        rw [htd] at hpre
        simp only [go_sem,hlt,Zkh hneK,Zij hneK,Zad,hgk,hsm,hlk,Za6,hwv,hid,hw]
        have h5:getS [none,none,none,none,some (Blk.row (ints K) 0),slB (bds L),some (Blk.row [.agg [.int .i64 v, .int .i64 c.t.head, .ps 2 (c.t.args.map Tm.toA)]] 0)] 5=slB (bds L):=rfl
        have ho1:appOk ⟨3,true,40,[.int .i64 0, .int .i64 0, .nils], .struct⟩ [.agg [.int .i64 v, .int .i64 c.t.head, .ps 2 (c.t.args.map Tm.toA)]]:=⟨fun y hy=>by rw [List.mem_singleton.1 hy];exact ⟨rfl,rfl⟩,by decide,by decide,rfl⟩
        refine ⟨by omega,hlt',?_⟩
        simp only [go_sem,Ze3 h5,ho1,Zf9,hw]
        refine ⟨by omega,⟨(i+1,L++[⟨v,c.t⟩]),by simp only;omega,by rw [← hpre,List.append_assoc];rfl,by simp only [List.length_append,List.length_cons,List.length_nil];omega⟩,[(5,7),(7,5)],Zb0 rfl ?_,by simp only;omega⟩
        dsimp only
        have hba:bds (L++[⟨v,c.t⟩])=bds L++[.agg [.int .i64 v, .int .i64 c.t.head, .ps 2 (c.t.args.map Tm.toA)]]:=by simp [bds,Bd.toA]
        have lw:lowL 0 (bds (L++[⟨v,c.t⟩])):=of_eq_true (Zhw _)
        rw [hba] at lw ⊢
        rw [Zh0,Zh2]
        simp only [go_sem,(Zb3 m).2,Zac (Nat.zero_le 6) (Zb3 m).2,Za4,Za2 (Zb3 m).2,Za2 (Za4 _),Za2 lw,Zac (Nat.zero_le 6) lw,Zf9]
      ·have hi':i=K.length:=by omega
       subst hi'
       rw [List.drop_length] at hpre
       simp only [go_sem,hlt]
       refine EvK.go 1000 ?_
       simp only [go_sem]
       rw [← hpre,show tidyP m []=[] from rfl,List.append_nil]
       rw [Zej rfl rfl];trivial
 ·have h1':¬ (a.length:Int)=b.length:=by omega
  have hm:matP a b=([],false,1):=by unfold matP;rw [if_pos (.inl h1)]
  rw [hm]
  simp only [go_sem,List.length_map,h1',show bds []=[] from rfl]
theorem Zz2 (a b:Tm) (ha:a.size<99999999) (hb:b.size<99999999) (hfa:a.fit) (hfb:b.fit) :
  CallEq Tryz.prog 85 [a.toA,b.toA] (.tup [.ps 3 (bds (matP [a] [b]).1), .bool (matP [a] [b]).2.1, .int .i64 (matP [a] [b]).2.2]):=by
 refine CallEq.begin (rs:=[.tmp 4, .tmp 5, .tmp 6]) (m:=13) 1000 Tryz.func85 rfl rfl rfl (by decide) (by simp [go_sem]) ?_
 have hall:=Yiy [a] [b] (by simp) (by simpa [Tm.sizes] using ha) (by simpa [Tm.sizes] using hb) ⟨hfa,trivial⟩ ⟨hfb,trivial⟩
 generalize matP [a] [b]=z at *
 simp only [go_sem,Za8]
 refine VCall.isoT [2,3] hall ?_ (by simp [go_sem,Za7]) ?_
 ·simp only [go_sem,Za6,List.map_cons,List.map_nil]
 generalize flatR _=fl
 cases fl
 ·simp only [Bool.false_eq_true,if_false]
  refine EvK.go 1000 ?_
  simp only [go_sem]
 ·simp only [if_true]
  refine EvK.go 1000 ?_
  simp only [go_sem]
structure Spo where
 i:Int
 rt:Bool
 p:List Int
 t:Tm
def Spo.toA (s:Spo):AVal:=.agg [.int .i64 s.i, .bool s.rt, .ps 1 (ints s.p), .int .i64 s.t.head, .ps 2 (s.t.args.map Tm.toA)]
theorem Zjs (s:Spo):s.toA.cells=[.int .i64 s.i, .bool s.rt, .ps 1 (ints s.p), .int .i64 s.t.head, .ps 2 (s.t.args.map Tm.toA)]:=rfl
theorem Ymo {n:Nat} (s:Spo):s.toA.low n:=⟨trivial,trivial,Za4 _,trivial,Za0 _,trivial⟩
def Li.side (l:Li) (rt:Bool):Tm:=if rt then l.r else l.l
def Li.putS (l:Li) (rt:Bool) (u:Tm):Li:=if rt then ⟨l.neg,l.l,u⟩ else ⟨l.neg,u,l.r⟩
def putC (c:List Li) (s:Spo) (u:Tm):List Li:=match c[s.i.toNat]? with
 | some l=>c.set s.i.toNat (l.putS s.rt ((l.side s.rt).putP s.p u))
 | none=>c
theorem Ym3 (c:List Li) (s:Spo) (u v:Tm) (i:Nat) (h:i<c.length) (hi:s.i=i) (hv:(c[i].side s.rt).atP s.p=some v) (hl:c.length≤1000000) (hp:s.p.length≤1000000) (hs:(c[i].side s.rt).size≤1000000) :
  CallEq Tryz.prog 55 [.ps 5 (lits c),s.toA,u.toA] (.ps 5 (lits (putC c s u))):=by
 refine CallEq.begin (rs:=[.tmp 6]) (m:=43) 1000 Tryz.func55 rfl rfl rfl (by decide) (Za3 _) ?_
 have hne:c≠[]:=by intro e;subst e;simp at h
 have hput:=Yk8 (c[i].side s.rt) s.p u v hp hs hv
 have hgl:=Zc6 h
 have hpc:putC c s u=c.set i (c[i].putS s.rt ((c[i].side s.rt).putP s.p u)):=by
  unfold putC
  rw [hi,Int.toNat_natCast,List.getElem?_eq_getElem h]
 rw [hpc]
 generalize c[i]=l at *
 simp only [go_sem,Zjs,Za8]
 refine VCall.isoN [] (Zlo c hne (by omega)) (Za1 _ _ _) (by simp [go_sem,Za3]) ?_
 rw [Zah]
 simp only [Zft,Zg5,Zhv,Zdv,Zm8,up,Za2 (Za3 _)]
 refine EvK.go 1000 ?_
 cases hr:s.rt with
 | true =>
  rw [hr] at hput
  simp only [go_sem,hi,Zaf,hgl,Zaw]
  refine ⟨⟨by omega,by omega⟩,?_⟩
  refine EvK.draw [.no, .no, .no, .no, .no, .no, .no, .no, .no, .no, .no,⟨none,[],[3]⟩, .no, .no,⟨none,[3],[]⟩] 4 4 mixed rfl rfl (by decide) ?_
  simp only [go_sem,padS,hgl,Zaw,Zaf,h]
  refine Zar hput (by simp only [Li.side,Za6,if_true,Bool.false_eq_true,if_false];exact Za1 _ _ _) (by simp [go_sem,Za7,Za4]) ?_
  generalize hy:(l.side true).putP s.p u=y at *
  simp only [go_sem,Za8,hgl,Zaw,Zaf,h]
  have he:(lits c).set i (mkElem (isAggA l.toA) [.bool l.neg, .int .i64 l.l.head, .ps 2 (l.l.args.map Tm.toA), .int .i64 y.head, .ps 2 (y.args.map Tm.toA)])=lits (c.set i (l.putS true y)):=by
   rw [show mkElem (isAggA l.toA) [.bool l.neg, .int .i64 l.l.head, .ps 2 (l.l.args.map Tm.toA), .int .i64 y.head, .ps 2 (y.args.map Tm.toA)]=(l.putS true y).toA from rfl]
   simp [lits,List.map_set]
  rw [he]
  refine ⟨by omega,?_⟩
  refine EvK.go 1000 ?_
  simp only [go_sem,Zaf,List.length_set]
  rw [List.take_of_length_le (by rw [Zaf,List.length_set];exact Nat.le_refl _)]
  exact Za1 _ _ _
 | false =>
  rw [hr] at hput
  simp only [go_sem,hi,Zaf,hgl,Zaw]
  refine ⟨⟨by omega,by omega⟩,?_⟩
  refine EvK.draw [.no, .no, .no, .no, .no, .no, .no, .no, .no, .no, .no,⟨none,[],[3]⟩, .no, .no,⟨none,[3],[]⟩] 4 4 mixed rfl rfl (by decide) ?_
  simp only [go_sem,padS,hgl,Zaw,Zaf,h]
  refine Zar hput (by simp only [Li.side,Za6,if_true,Bool.false_eq_true,if_false];exact Za1 _ _ _) (by simp [go_sem,Za7,Za4]) ?_
  generalize hy:(l.side false).putP s.p u=y at *
  simp only [go_sem,Za8,hgl,Zaw,Zaf,h]
  have he:(lits c).set i (mkElem (isAggA l.toA) [.bool l.neg, .int .i64 y.head, .ps 2 (y.args.map Tm.toA), .int .i64 l.r.head, .ps 2 (l.r.args.map Tm.toA)])=lits (c.set i (l.putS false y)):=by
   rw [show mkElem (isAggA l.toA) [.bool l.neg, .int .i64 y.head, .ps 2 (y.args.map Tm.toA), .int .i64 l.r.head, .ps 2 (l.r.args.map Tm.toA)]=(l.putS false y).toA from rfl]
   simp [lits,List.map_set]
  rw [he]
  refine ⟨by omega,?_⟩
  refine EvK.go 1000 ?_
  simp only [go_sem,Zaf,List.length_set]
  rw [List.take_of_length_le (by rw [Zaf,List.length_set];exact Nat.le_refl _)]
  exact Za1 _ _ _
def updL:List (Int×Int)→Int→Int→List (Int×Int)
 | [],k,s=>[(k,s)]
 | x :: r,k,s=>if x.1=k then (x.1,x.2+s) :: r else x :: updL r k s
def lookL:List (Int×Int)→Int→Int
 | [],_=>0
 | x :: r,k=>if x.1=k then x.2 else lookL r k
def keyI (l:List (Int×Int)):List AVal:=ints (l.map Prod.fst)
def valI (l:List (Int×Int)):List AVal:=ints (l.map Prod.snd)
theorem Zbc {n:Nat} (l:List (Int×Int)):lowL n (keyI l)∧lowL n (valI l):=⟨Za4 _,Za4 _⟩
theorem Ybh (l:List (Int×Int)) (v:Int):(keyI l).all (sameKind (.int .i64 v))=true:=by simp [keyI,ints,sameKind]
theorem Zh8 (x:Int×Int) (r:List (Int×Int)):keyI (x :: r) = .int .i64 x.1 :: keyI r:=rfl
theorem Zgw (x:Int×Int) (r:List (Int×Int)):valI (x :: r) = .int .i64 x.2 :: valI r:=rfl
theorem Zhu (k:Int):∀ (l:List (Int×Int)) (n:Nat),(match findK (.int .i64 k) (keyI l) n with
  | some i=>n≤i∧(valI l).getD (i - n) .undef = .int .i64 (lookL l k)∧∀ s,((keyI l)=keyI (updL l k s)∧(valI l).set (i - n) (.int .i64 (lookL l k+s))=valI (updL l k s))
  | none=>lookL l k=0∧∀ s,keyI l++[.int .i64 k]=keyI (updL l k s)∧valI l++[.int .i64 s]=valI (updL l k s))
 | [],n=>⟨rfl,fun s=>⟨rfl,rfl⟩⟩
 | x :: r,n=>by
  have ih:=Zhu k r (n+1)
  rw [Zh8,Zgw]
  simp only [findK,lookL,updL]
  by_cases c:x.1=k
  ·have hc:eqCell (.int .i64 k) (.int .i64 x.1)=true:=by simp [eqCell,c]
   rw [hc,if_pos rfl]
   simp only [if_pos c]
   refine ⟨Nat.le_refl _,?_,fun s=>?_⟩
   ·simp [List.getD]
   ·rw [Nat.sub_self,Zh8,Zgw];exact ⟨rfl,rfl⟩
  ·have hc:eqCell (.int .i64 k) (.int .i64 x.1)=false:=by simp only [eqCell,beq_eq_false_iff_ne];exact fun e=>c e.symm
   rw [hc]
   simp only [Bool.false_eq_true,if_false,if_neg c]
   split at ih
   ·rename_i i _
    obtain ⟨h1,h2,h3⟩:=ih
    have hi:i - n=(i - (n+1))+1:=by omega
    refine ⟨by omega,?_,fun s=>?_⟩
    ·rw [hi,List.getD_cons_succ];exact h2
    ·obtain ⟨q1,q2⟩:=h3 s
     rw [hi,List.set_cons_succ,Zh8,Zgw,← q1,← q2];exact ⟨rfl,rfl⟩
   ·obtain ⟨h1,h2⟩:=ih
    refine ⟨h1,fun s=>?_⟩
    obtain ⟨q1,q2⟩:=h2 s
    rw [Zh8,Zgw,← q1,← q2];exact ⟨rfl,rfl⟩
theorem Zra (l:List (Int×Int)) (k:Int):lookupIn (keyI l) (valI l) (.int .i64 0) (.int .i64 k) false = .int .i64 (lookL l k):=by
 have h:=Zhu k l 0
 unfold lookupIn
 cases hk:findK (.int .i64 k) (keyI l) 0 with
 | some i=>rw [hk] at h;simpa using h.2.1
 | none=>rw [hk] at h;simp only [Bool.false_eq_true,if_false];rw [h.1]
theorem Zrq (l:List (Int×Int)) (k s:Int):mapSet (keyI l) (valI l) (.int .i64 k) (.int .i64 (lookL l k+s))=(keyI (updL l k s),valI (updL l k s)):=by
 have h:=Zhu k l 0
 unfold mapSet
 cases hk:findK (.int .i64 k) (keyI l) 0 with
 | some i=>rw [hk] at h;obtain ⟨q1,q2⟩:=h.2.2 s;simp only;rw [← q1,← q2,Nat.sub_zero]
 | none=>rw [hk] at h;obtain ⟨q1,q2⟩:=h.2 s;simp only;rw [h.1,Int.zero_add,q1,q2]
def wtOf (g:List Sy) (h:Int):Int:=((g[h.toNat]?).map Sy.weight).getD 0
mutual
def ldT (g:List Sy) (s:Int):Tm→Int×List (Int×Int)→Int×List (Int×Int)
 | .mk h ts,x=>if h<0 then (x.1+s,updL x.2 h s) else ldTs g s ts (x.1+s*wtOf g h,x.2)
def ldTs (g:List Sy) (s:Int):List Tm→Int×List (Int×Int)→Int×List (Int×Int)
 | [],x=>x
 | t :: ts,x=>ldTs g s ts (ldT g s t x)
end
mutual
def Tm.inG (g:List Sy):Tm→Prop
 | .mk h ts=>h<g.length∧Tm.inGs g ts
def Tm.inGs (g:List Sy):List Tm→Prop
 | []=>True
 | t :: ts=>t.inG g∧Tm.inGs g ts
end
theorem Zh7 {g:List Sy} {t:Tm} (h:t.inG g):t.head<g.length:=by cases t;exact h.1
theorem Ztv {g:List Sy} {t:Tm} (h:t.inG g):Tm.inGs g t.args:=by cases t;exact h.2
theorem Zng {g:List Sy}:∀ {ts:List Tm},Tm.inGs g ts→∀ t∈ts,t.inG g
 | x :: ts,h,t,ht=>by
  rcases List.mem_cons.1 ht with rfl | ht
  ·exact h.1
  ·exact Zng h.2 t ht
def ldOk (B:Int) (x:Int×List (Int×Int)):Prop:=-B≤x.1∧x.1≤B∧∀ y∈x.2, -B≤y.2∧y.2≤B
theorem Zhk {B C:Int} {x:Int×List (Int×Int)} (h:ldOk B x) (hc:B≤C):ldOk C x:=⟨by have:=h.1;omega,by have:=h.2.1;omega,fun y hy=>⟨by have:=(h.2.2 y hy).1;omega,by have:=(h.2.2 y hy).2;omega⟩⟩
theorem Ybo {B s:Int} (h0 : 0≤B) (hs:s=1∨s = -1):∀ (l:List (Int×Int)) (k:Int),(∀ y∈l, -B≤y.2∧y.2≤B)→∀ y∈updL l k s, -(B+1)≤y.2∧y.2≤B+1
 | [],k,_,y,hy=>by rw [List.mem_singleton.1 hy];simp only;omega
 | x :: r,k,h,y,hy=>by
  have hx:=h x (by simp)
  simp only [updL] at hy
  split at hy
  ·rcases List.mem_cons.1 hy with rfl | hy
   ·simp only;omega
   ·have:=h y (by simp [hy]);omega
  ·rcases List.mem_cons.1 hy with rfl | hy
   ·omega
   ·exact Ybo h0 hs r k (fun z hz=>h z (by simp [hz])) y hy
theorem Zu0 {B:Int} (h0 : 0≤B):∀ (l:List (Int×Int)) (k:Int),(∀ y∈l, -B≤y.2∧y.2≤B)→-B≤lookL l k∧lookL l k≤B
 | [],k,_=>by simp only [lookL];omega
 | x :: r,k,h=>by
  simp only [lookL]
  split
  ·exact h x (by simp)
  ·exact Zu0 h0 r k fun z hz=>h z (by simp [hz])
def gOk (g:List Sy):Prop:=∀ s∈g, -1000000≤s.weight∧s.weight≤1000000
theorem Zzd {g:List Sy} (hg:gOk g) (h:Int) : -1000000≤wtOf g h∧wtOf g h≤1000000:=by
 unfold wtOf
 cases hq:g[h.toNat]? with
 | none=>simp
 | some s=>exact hg s (List.mem_of_getElem? hq)
mutual
theorem Ztt {g:List Sy} (hg:gOk g) {s:Int} (hs:s=1∨s = -1):∀ (t:Tm) (x:Int×List (Int×Int)) (B:Int),0≤B→ldOk B x→ldOk (B+1000000*t.size) (ldT g s t x)
 | .mk h ts,x,B,h0,hx=>by
  rw [ldT,Tm.size]
  have hw:=Zzd hg h
  split
  ·refine Zhk (B:=B+1) ⟨?_,?_,Ybo h0 hs _ _ hx.2.2⟩ (by omega)
   ·have:=hx.1;simp only;omega
   ·have:=hx.2.1;simp only;omega
  ·have h1:ldOk (B+1000000) (x.1+s*wtOf g h,x.2):=by
    refine ⟨?_,?_,fun y hy=>by have:=hx.2.2 y hy;omega⟩
    ·have:=hx.1;rcases hs with rfl | rfl<;>simp only<;>omega
    ·have:=hx.2.1;rcases hs with rfl | rfl<;>simp only<;>omega
   exact Zhk (Yau hg hs ts _ _ (by omega) h1) (by omega)
theorem Yau {g:List Sy} (hg:gOk g) {s:Int} (hs:s=1∨s = -1):∀ (ts:List Tm) (x:Int×List (Int×Int)) (B:Int),0≤B→ldOk B x→ldOk (B+1000000*Tm.sizes ts) (ldTs g s ts x)
 | [],x,B,h0,hx=>by rw [ldTs];exact Zhk hx (by simp [Tm.sizes])
 | t :: ts,x,B,h0,hx=>by
  rw [ldTs,Tm.sizes]
  exact Zhk (Yau hg hs ts _ _ (by omega) (Ztt hg hs t x B h0 hx)) (by omega)
end
def ldZ (x:Int×List (Int×Int)):Store:=[some (.map (keyI x.2) (valI x.2) false),some (.var [.int .i64 x.1, .map 0])]
theorem Yip (g:List Sy) (hg:gOk g) (hgl:g.length<1000000) (s:Int) (hs:s=1∨s = -1):∀ (n:Nat) (t:Tm) (x:Int×List (Int×Int)) (B:Int),t.size≤n→t.size<100000000→t.inG g→t.fit→0≤B→ldOk B x→B+1000000*t.size≤1000000000000000 →
  VCall Tryz.prog (.fn 159 [] []) [.ptr 1 0, .ps 4 (syms g),t.toA, .int .i64 s] (ldZ x) (fun r σ'=>r = .tup []∧σ'=ldZ (ldT g s t x))
 | 0,t,_,_,h,_,_,_,_,_,_=>by have:=Zay t;omega
 | n+1,t,x,B,hn,hsz,hin,hft,h0,hx,hB=>by
  unfold ldZ
  refine VCall.begin (rs:=[]) (m:=54) 1000 Tryz.func159 rfl rfl rfl rfl rfl ?_
  have hsa:=Zay t
  have hal:=Zaj t.args
  obtain ⟨x1,x2,x3⟩:=hx
  have hih:=Zh7 hin
  by_cases hneg:t.head<0
  ·have hld:ldT g s t x=(x.1+s,updL x.2 t.head s):=by cases t;rw [ldT];exact if_pos hneg
   have hw1:IntKind.i64.wrap (x.1+s)=x.1+s:=Zab (by rcases hs with rfl | rfl<;>omega)
   have hlo:=Zu0 h0 x.2 t.head x3
   have hw2:IntKind.i64.wrap (lookL x.2 t.head+s)=lookL x.2 t.head+s:=Zab (by rcases hs with rfl | rfl<;>omega)
   rw [hld]
   simp only [go_sem,Za8,hneg,hw1]
   refine EvK.draw [.no, .no, .no, .no, .no, .no, .no, .no, .no,⟨none,[0],[]⟩] 3 3 mixed rfl rfl (by decide) ?_
   simp only [go_sem,padS,Ybh,Zra,hw2,Zrq]
   refine EvK.go 1000 ?_
   simp only [go_sem]
   rw [Zax]
   exact ⟨ldZ (x.1+s,updL x.2 t.head s),by simp [ldZ,go_sem],by simp [ldZ],by simp [ldZ,go_sem,Zbc],trivial,rfl,rfl⟩
  ·simp only [go_sem,Za8,hneg]
   have hht:t.head.toNat<g.length:=by omega
   have hgs:=Zb6 hht
   have hwt:wtOf g t.head=(g[t.head.toNat]).weight:=by simp [wtOf,hht]
   have hwb:=Zzd hg t.head
   have hld:ldT g s t x=ldTs g s t.args (x.1+s*wtOf g t.head,x.2):=by cases t;rw [ldT];exact if_neg hneg
   have hw1:IntKind.i64.wrap (s*wtOf g t.head)=s*wtOf g t.head:=Zab (by rcases hs with rfl | rfl<;>omega)
   have hw2:IntKind.i64.wrap (x.1+s*wtOf g t.head)=x.1+s*wtOf g t.head:=Zab (by rcases hs with rfl | rfl<;>omega)
   have hok1:ldOk (B+1000000) (x.1+s*wtOf g t.head,x.2):=by
    refine ⟨?_,?_,fun y hy=>by have:=x3 y hy;omega⟩
    ·rcases hs with rfl | rfl<;>simp only<;>omega
    ·rcases hs with rfl | rfl<;>simp only<;>omega
   rw [hld]
   generalize hx1:x.1+s*wtOf g t.head=x1' at *
   refine EvK.draw [.no, .no, .no, .no, .no, .no, .no, .no, .no, .no, .no, .no, .no, .no, .no,⟨none,[1],[]⟩] 3 3 mixed rfl rfl (by decide) ?_
   simp only [go_sem,padS,Zal,hgs,Zaz,← hwt,hw1,hx1,hw2]
   refine ⟨⟨by omega,hih⟩,?_⟩
   refine EvK.go 1000 ?_
   simp only [go_sem,List.length_map]
   obtain ⟨F,hF⟩:∃ F,ldTs g s t.args (x1',x.2)=F:=⟨_,rfl⟩
   rw [hF]
   refine EvK.loopI (ι:={q:Nat×(Int×List (Int×Int)) // q.1≤t.args.length∧ldTs g s (t.args.drop q.1) q.2=F∧∃ C,0≤C∧ldOk C q.2∧C+1000000*Tm.sizes (t.args.drop q.1)≤1000000000000000}) 1000
    (fun q=>mkT 58 [(0, .ptr 1 0),(1, .ps 4 (syms g)),(3, .int .i64 s),(46, .ps 2 (t.args.map Tm.toA)),(47, .int .i64 t.args.length),(48, .int .i64 q.1.1)]) (fun q=>ldZ q.1.2) (fun q=>t.args.length - q.1.1)
    ⟨(0,(x1',x.2)),by simp only [List.drop_zero];exact ⟨Nat.zero_le _,hF,B+1000000,by omega,hok1,by omega⟩⟩ ?_ (fun _=>by simp [ldZ]) ?_
   ·unfold ldZ
    simp only [go_sem,Za5,Za0,Zbc]
   ·rintro ⟨⟨i,y⟩,hi,hpre,C,hC0,hC1,hC2⟩
    simp only at hi hpre hC1 hC2
    by_cases hlt:(i:Int)<t.args.length
    ·have hlt':i<t.args.length:=by omega
     have hw:IntKind.i64.wrap ((i:Int)+1)=((i+1:Nat):Int):=by rw [Zab (by omega)];omega
     have hgt:(t.args.map Tm.toA).getD i .undef=t.args[i].toA:=Zaq hlt'
     have hmem:=List.getElem_mem hlt'
     have hui:=Zng (Ztv hin) _ hmem
     have huf:=Zca (Zcx hft) _ hmem
     have hus:=Zbl hmem
     rw [List.drop_eq_getElem_cons hlt'] at hpre hC2
     rw [ldTs] at hpre
     rw [Tm.sizes] at hC2
     generalize t.args[i]=u at *
     unfold ldZ
     simp only [go_sem,hlt,List.length_map,hgt,Za8]
     refine ⟨by omega,?_⟩
     rw [← Za6 u]
     have hI:∀ b,b<2→b=0∨b=1:=fun b hb=>by omega
     have hL:lowL 2 [AVal.ptr 1 0, .ps 4 (syms g),u.toA, .int .i64 s]:=⟨Nat.lt_succ_self 1,Za5 _,Za7 u,trivial,trivial⟩
     refine VCall.embedB (Z:=ldZ y) (f:=.fn 159 [] []) (args:=[AVal.ptr 1 0, .ps 4 (syms g),u.toA, .int .i64 s]) (fun b=>b) (fun b b' h1 h2 e=>e) (fun b hb=>Nat.lt_succ_of_lt hb) (fun b hb=>?_) (by simp [go_sem]) rfl hL (Zbj _ 2 (fun _ _=>rfl) _ hL) (by simp [ldZ,go_sem,Zbc]) (Yip g hg hgl s hs n u y C (by omega) (by omega) hui huf hC0 hC1 (by omega)) ?_
     ·rcases hI b hb with rfl | rfl
      ·refine ⟨_,rfl,?_⟩
       simp [renB,Za2 (Zbc y.2).1,Za2 (Zbc y.2).2]
      ·exact ⟨_,rfl,rfl⟩
     rintro r Z' ⟨rfl,rfl⟩
     refine ⟨by simp [ldZ],by simp [ldZ,go_sem,Zbc],trivial,?_⟩
     have hC1':=Ztt hg hs u y C hC0 hC1
     generalize ldT g s u y=z at *
     simp only [go_sem,ldZ,embS,setAll,emb,List.map_cons,List.map_nil,Za2 (Zbc z.2).1,Za2 (Zbc z.2).2]
     refine EvK.go 1000 ?_
     simp only [go_sem,hw]
     refine ⟨⟨(i+1,z),by simp only;omega,hpre,C+1000000*u.size,by omega,hC1',by simp only;omega⟩,?_,by simp only;omega⟩
     simp only [go_sem,Za5,Za0,Zbc]
    ·have hi':i=t.args.length:=by omega
     subst hi'
     rw [List.drop_length,ldTs] at hpre
     subst hpre
     unfold ldZ
     simp only [go_sem,hlt]
     refine EvK.go 1000 ?_
     simp only [go_sem]
     rw [Zax]
     exact ⟨ldZ y,by simp [ldZ,go_sem],by simp [ldZ],by simp [ldZ,go_sem,Zbc],trivial,rfl,rfl⟩
def sdL (x:Int×List (Int×Int)) (n:Int):Int:=sideF n ((x.2.map Prod.snd).any fun n=>decide (0<n)) ((x.2.map Prod.snd).any fun n=>decide (n<0))
def ldD (g:List Sy) (t u:Tm):Int×List (Int×Int):=ldT g (-1) u (ldT g 1 t (0,[]))
mutual
def standF (g:List Sy):Tm→Tm→Int
 | .mk h ts,u=>if Tm.mk h ts=u then 0 else
  if (ldD g (.mk h ts) u).1≠0 then sdL (ldD g (.mk h ts) u) (ldD g (.mk h ts) u).1 else
  if h<0∨u.head<0 then 2 else if h≠u.head then sdL (ldD g (.mk h ts) u) (h - u.head) else standA g (ldD g (.mk h ts) u) ts u.args
def standA (g:List Sy) (x:Int×List (Int×Int)):List Tm→List Tm→Int
 | [],_=>0
 | _ :: _,[]=>0
 | t :: ts,u :: us=>if standF g t u≠0 then (if standF g t u=2 then 2 else sdL x (standF g t u)) else standA g x ts us
end
def arOf (g:List Sy) (h:Int):Int:=((g[h.toNat]?).map Sy.arity).getD 0
mutual
def Tm.arG (g:List Sy):Tm→Prop
 | .mk h ts=>(0≤h→(ts.length:Int)=arOf g h)∧Tm.arGs g ts
def Tm.arGs (g:List Sy):List Tm→Prop
 | []=>True
 | t :: ts=>t.arG g∧Tm.arGs g ts
end
theorem Zy5 {g:List Sy} {t:Tm} (h:t.arG g) (h0 : 0≤t.head):(t.args.length:Int)=arOf g t.head:=by cases t;exact h.1 h0
theorem Yfh {g:List Sy} {t:Tm} (h:t.arG g):Tm.arGs g t.args:=by cases t;exact h.2
theorem Zt9 {g:List Sy}:∀ {ts:List Tm},Tm.arGs g ts→∀ t∈ts,t.arG g
 | x :: ts,h,t,ht=>by
  rcases List.mem_cons.1 ht with rfl | ht
  ·exact h.1
  ·exact Zt9 h.2 t ht
def tmOk (g:List Sy) (t:Tm):Prop:=t.size<100000000∧t.inG g∧t.arG g∧t.fit
theorem Znb {g:List Sy} {t u:Tm} (h:tmOk g t) (hu:u∈t.args):tmOk g u:=by
 have h1:=Zbl hu
 have h2:=Zay t
 exact ⟨by have:=h.1;omega,Zng (Ztv h.2.1) u hu,Zt9 (Yfh h.2.2.1) u hu,Zca (Zcx h.2.2.2) u hu⟩
theorem Yr5 (g:List Sy) (hg:gOk g) (hgl:g.length<1000000) (s:Int) (hs:s=1∨s = -1) (t:Tm) (x:Int×List (Int×Int)) (B:Int) (ht:tmOk g t) (h0 : 0≤B) (hx:ldOk B x) (hB:B+1000000*t.size≤1000000000000000) (a0 a1:Option Blk) {K:AVal→Store→Prop}
  (hK:K (.tup []) [a0,a1,some (.map (keyI (ldT g s t x).2) (valI (ldT g s t x).2) false),some (.var [.int .i64 (ldT g s t x).1, .map 2])]) :
  VCall Tryz.prog (.fn 159 [] []) [.ptr 3 0, .ps 4 (syms g), .agg [.int .i64 t.head, .ps 2 (t.args.map Tm.toA)], .int .i64 s] [a0,a1,some (.map (keyI x.2) (valI x.2) false),some (.var [.int .i64 x.1, .map 2])] K:=by
 have hI:∀ b,b<2→b=0∨b=1:=fun b hb=>by omega
 have hL:lowL 2 [AVal.ptr 1 0, .ps 4 (syms g),t.toA, .int .i64 s]:=⟨Nat.lt_succ_self 1,Za5 _,Za7 t,trivial,trivial⟩
 rw [← Za6 t]
 refine VCall.embedB (Z:=ldZ x) (f:=.fn 159 [] []) (args:=[AVal.ptr 1 0, .ps 4 (syms g),t.toA, .int .i64 s]) (fun b=>b+2) (fun b b' h1 h2 e=>by omega) (fun b hb=>by have:b<2:=hb;simp;omega) (fun b hb=>?_) (by simp [go_sem]) rfl hL ?_ (by simp [ldZ,go_sem,Zbc]) (Yip g hg hgl s hs t.size t x B (Nat.le_refl _) ht.1 ht.2.1 ht.2.2.2 h0 hx hB) ?_
 ·rcases hI b hb with rfl | rfl
  ·refine ⟨_,rfl,?_⟩
   simp [renB,Za2 (Zbc x.2).1,Za2 (Zbc x.2).2]
  ·exact ⟨_,rfl,rfl⟩
 ·simp only [renL,ren,Za2 (Za5 _),Ziw (Zni t),Nat.reduceAdd]
 rintro r Z' ⟨rfl,rfl⟩
 refine ⟨by simp [ldZ],by simp [ldZ,go_sem,Zbc],trivial,?_⟩
 generalize ldT g s t x=z at *
 simp only [go_sem,ldZ,embS,setAll,emb,List.map_cons,List.map_nil,Za2 (Zbc z.2).1,Za2 (Zbc z.2).2]
 exact hK
theorem Zn7 (g:List Sy) (hg:gOk g) (hgl:g.length<1000000):∀ (n:Nat) (t u:Tm),t.size≤n→tmOk g t→tmOk g u→CallEq Tryz.prog 126 [.ps 4 (syms g),t.toA,u.toA] (.int .i64 (standF g t u))
 | 0,t,_,h,_,_=>by have:=Zay t;omega
 | n+1,t,u,hn,ht,hu=>by
  refine CallEq.begin (rs:=[.tmp 6]) (m:=82) 1000 Tryz.func126 rfl rfl rfl (by decide) trivial ?_
  have hst:standF g t u=if t=u then 0 else if (ldD g t u).1≠0 then sdL (ldD g t u) (ldD g t u).1 else if t.head<0∨u.head<0 then 2 else if t.head≠u.head then sdL (ldD g t u) (t.head - u.head) else standA g (ldD g t u) t.args u.args:=by
   cases t;rw [standF];rfl
  simp only [go_sem,Za8]
  refine VCall.isoT [] (Zf0 t u (by have:=ht.1;omega) (by have:=hu.1;omega)) (by (try simp only [Za6]);exact Za1 _ _ _) (by simp [go_sem,Za7,Za0]) ?_;simp only [flatR,flatA,flatC,if_true];refine EvK.go 1000 ?_
  by_cases he:t=u
  ·rw [hst,if_pos he]
   simp only [go_sem,he]
  ·rw [if_neg he] at hst
   simp only [go_sem,he]
   have ht1:=ht.1
   have hu1:=hu.1
   have ok0:ldOk 0 (0,[]):=⟨by simp,by simp,fun y hy=>by cases hy⟩
   have ok1:=Ztt hg (.inl rfl) t (0,[]) 0 (by omega) ok0
   refine Yr5 g hg hgl 1 (.inl rfl) t (0,[]) 0 ht (by omega) ok0 (by omega) _ _ ?_
   refine EvK.go 1000 ?_
   simp only [go_sem]
   refine Yr5 g hg hgl (-1) (.inr rfl) u _ _ hu (by omega) ok1 (by omega) _ _ ?_
   have hok:=Ztt hg (.inr rfl) u _ _ (by omega) ok1
   have hsd:∀ n,CallEq Tryz.prog 160 [.pp [.int .i64 (ldD g t u).1, .pm (keyI (ldD g t u).2) (valI (ldD g t u).2)], .int .i64 n] (.int .i64 (sdL (ldD g t u) n)):=fun n=>Yn2 _ n _ _ (by simp [keyI,ints]) (Zbc _).1
   rw [show ldT g (-1) u (ldT g 1 t (0,[]))=ldD g t u from rfl] at hok ⊢
   generalize ldD g t u=x at *
   refine EvK.frzMB (q:=2) (b:=3) rfl rfl (by decide) ?_
   refine EvK.go 1000 ?_
   have hf1:frM 2 (keyI x.2) (valI x.2) t.toA=t.toA:=by rw [Za6];rfl
   have hf2:frM 2 (keyI x.2) (valI x.2) u.toA=u.toA:=by rw [Za6];rfl
   by_cases h1:x.1=0
   ·rw [if_neg (by simp [h1])] at hst
    rw [h1] at hsd
    by_cases c1:t.head<0
    ·rw [if_pos (.inl c1)] at hst
     rw [hst]
     simp only [go_sem,List.map_cons,List.map_nil,h1,hf1,hf2,c1]
    ·by_cases c2:u.head<0
     ·rw [if_pos (.inr c2)] at hst
      rw [hst]
      simp only [go_sem,List.map_cons,List.map_nil,h1,hf1,hf2,c1,c2]
     ·rw [if_neg (by simp [c1,c2])] at hst
      have i1:=Zh7 ht.2.1
      have i2:=Zh7 hu.2.1
      by_cases c3:t.head=u.head
      ·rw [if_neg (by simp [c3])] at hst
       have c2':¬ u.head<0:=c2
       simp only [go_sem,List.map_cons,List.map_nil,h1,hf1,hf2,c3,c2',List.length_map]
       have hlen:t.args.length=u.args.length:=by
        have l1:=Zy5 ht.2.2.1 (by omega)
        have l2:=Zy5 hu.2.2.1 (by omega)
        rw [c3,← l2] at l1;omega
       have hal:=Zaj t.args
       have hsa:=Zay t
       refine EvK.loopI (ι:={i:Nat // i≤t.args.length∧standA g x (t.args.drop i) (u.args.drop i)=standF g t u}) 1000
        (fun q=>mkT 85 [(0, .ps 4 (syms g)),(4, .ptr 0 0),(5, .ptr 1 0),(6, .int .i64 0),(7, .ptr 3 0),(25, .ps 2 (t.args.map Tm.toA)),(26, .int .i64 t.args.length),(27, .int .i64 q.1)])
        (fun _=>[some (.var [.int .i64 u.head, .ps 2 (t.args.map Tm.toA)]),some (.var [.int .i64 u.head, .ps 2 (u.args.map Tm.toA)]),none,some (.var [.int .i64 0, .pm (keyI x.2) (valI x.2)])]) (fun q=>t.args.length - q.1) ⟨0,by simp [hst]⟩ ?_ (fun _=>Nat.zero_le _) ?_
       ·simp only [go_sem,Za5,Za0,Zbc]
       ·rintro ⟨i,hi,hpre⟩
        by_cases hlt:(i:Int)<t.args.length
        ·have hlt':i<t.args.length:=by omega
         have hlu:i<u.args.length:=by omega
         have hw:IntKind.i64.wrap ((i:Int)+1)=((i+1:Nat):Int):=by rw [Zab (by omega)];omega
         have hg1:(t.args.map Tm.toA).getD i .undef=t.args[i].toA:=Zaq hlt'
         have hg2:(u.args.map Tm.toA).getD i .undef=u.args[i].toA:=Zaq hlu
         have hm1:=List.getElem_mem hlt'
         have o1:=Znb ht hm1
         have o2:=Znb hu (List.getElem_mem hlu)
         have hs1:=Zbl hm1
         have hrec:=Zn7 g hg hgl n t.args[i] u.args[i] (by omega) o1 o2
         rw [List.drop_eq_getElem_cons hlt',List.drop_eq_getElem_cons hlu,standA] at hpre
         generalize t.args[i]=y at *
         generalize u.args[i]=z at *
         generalize standF g y z=r at *
         have hlI:(i:Int)<u.args.length:=by omega
         simp only [go_sem,hlt]
         refine EvK.draw [] 4 4 mixed rfl rfl (by decide) ?_
         simp only [go_sem,padS,List.length_map,hg1,hg2,Za8]
         refine ⟨⟨by omega,hlt⟩,⟨by omega,hlI⟩,?_⟩
         refine Zar hrec (by simp only [Za6,List.nil_append,List.append_nil];exact Za1 _ _ _) (by simp [go_sem,Za7,Za5]) ?_
         simp only [go_sem]
         by_cases r0:r=0
         ·rw [if_neg (by simp [r0])] at hpre
          refine EvK.go 1000 ?_
          simp only [go_sem,r0,hw]
          refine ⟨⟨i+1,by omega,hpre⟩,?_,by simp only;omega⟩
          simp only [go_sem,Za5,Za0,Zbc]
         ·rw [if_pos r0] at hpre
          by_cases r2:r=2
          ·rw [if_pos r2] at hpre
           refine EvK.go 1000 ?_
           simp only [go_sem,r0,r2]
           refine EvK.go 1000 ?_
           simp only [go_sem,← hpre]
          ·rw [if_neg r2] at hpre
           refine EvK.go 1000 ?_
           simp only [go_sem,r0,r2]
           refine VCall.isoE (b:=3) (cs:=[.int .i64 0, .pm (keyI x.2) (valI x.2)]) [] rfl (hsd r) ?_ ?_ rfl ?_
           ·exact Za1 _ _ _
           ·simp [go_sem,Zbc]
           refine EvK.go 1000 ?_
           simp only [go_sem]
           refine EvK.go 1000 ?_
           simp only [go_sem,← hpre]
        ·have hi':i=t.args.length:=by omega
         subst hi'
         rw [List.drop_length,standA] at hpre
         simp only [go_sem,hlt]
         refine EvK.go 1000 ?_
         simp only [go_sem,← hpre]
      ·rw [if_pos c3] at hst
       have hw:IntKind.i64.wrap (t.head - u.head)=t.head - u.head:=Zab (by omega)
       simp only [go_sem,List.map_cons,List.map_nil,h1,hf1,hf2,c1,c2,c3,hw]
       refine VCall.isoE (b:=3) (cs:=[.int .i64 0, .pm (keyI x.2) (valI x.2)]) [] rfl (hsd (t.head - u.head)) ?_ ?_ rfl ?_
       ·exact Za1 _ _ _
       ·simp [go_sem,Zbc]
       refine EvK.go 1000 ?_
       simp only [go_sem,hst]
   ·rw [if_pos h1] at hst
    simp only [go_sem,List.map_cons,List.map_nil,h1,hf1,hf2]
    refine VCall.isoE (b:=3) (cs:=[.int .i64 x.1, .pm (keyI x.2) (valI x.2)]) [] rfl (hsd x.1) ?_ ?_ rfl ?_
    ·exact Za1 _ _ _
    ·simp [go_sem,Zbc]
    refine EvK.go 1000 ?_
    simp only [go_sem,hst]
def firstW (g:List Sy):List Tm→Int
 | []=>0
 | t :: ts=>if t.term g=0 then firstW g ts else t.term g
theorem Zok (g:List Sy) (ts:List Tm) (hl:ts.length<100000000) (ht:∀ t∈ts,t.size<99999999):CallEq Tryz.prog 107 [.ps 4 (syms g), .ps 2 (ts.map Tm.toA)] (.int .i64 (firstW g ts)):=by
 refine CallEq.begin (rs:=[.tmp 4]) (m:=19) 1000 Tryz.func107 rfl rfl rfl (by decide) trivial ?_
 simp only [go_sem,List.length_map]
 refine EvK.loopI (ι:={i:Nat // i≤ts.length∧firstW g (ts.drop i)=firstW g ts}) 1000 (fun q=>mkT 21 [(0, .ps 4 (syms g)),(4, .int .i64 0),(8, .ps 2 (ts.map Tm.toA)),(9, .int .i64 ts.length),(10, .int .i64 q.1)])
  (fun _=>[]) (fun q=>ts.length - q.1) ⟨0,by simp⟩ ?_ (fun _=>Nat.zero_le _) ?_
 ·simp only [go_sem,Za5,Za0]
 ·rintro ⟨i,hi,hpre⟩
  by_cases hlt:(i:Int)<ts.length
  ·have hlt':i<ts.length:=by omega
   have hw:IntKind.i64.wrap ((i:Int)+1)=((i+1:Nat):Int):=by rw [Zab (by omega)];omega
   have hg1:(ts.map Tm.toA).getD i .undef=ts[i].toA:=Zaq hlt'
   have hm:=ht _ (List.getElem_mem hlt')
   have htw:=Zmt g ts[i] (by omega)
   rw [List.drop_eq_getElem_cons hlt',firstW] at hpre
   generalize ts[i]=t at *
   simp only [go_sem,hlt,List.length_map,hg1,Za8]
   refine ⟨by omega,?_⟩
   refine VCall.isoT [] (htw) (by (try simp only [Za6]);exact Za1 _ _ _) (by simp [go_sem,Za7,Za0,Za5]) ?_;simp only [flatR,flatA,flatC,if_true];refine EvK.go 1000 ?_
   by_cases h:t.term g=0
   ·rw [if_pos h] at hpre
    simp only [go_sem,h,hw]
    refine ⟨⟨i+1,by omega,hpre⟩,?_,by simp only;omega⟩
    simp only [go_sem,Za5,Za0]
   ·rw [if_neg h] at hpre
    simp only [go_sem,h]
    refine EvK.go 1000 ?_
    simp only [go_sem,hpre]
  ·have hi':i=ts.length:=by omega
   subst hi'
   rw [List.drop_length,firstW] at hpre
   simp only [go_sem,hlt]
   refine EvK.go 1000 ?_
   simp only [go_sem,← hpre]
theorem Zsr (g:List Sy) (hg:gOk g) (hgl:g.length<1000000) (t u:Tm) (ht:t.size<99999999) (hu:u.size<99999999) (hok:firstW g [t,u]=0→tmOk g t∧tmOk g u) :
  CallEq Tryz.prog 87 [.ps 4 (syms g),t.toA,u.toA] (.tup [.int .i64 (if firstW g [t,u]=0 then standF g t u else 0), .int .i64 (firstW g [t,u])]):=by
 refine CallEq.begin (rs:=[.tmp 6, .tmp 7]) (m:=18) 1000 Tryz.func87 rfl rfl rfl (by decide) ⟨trivial,trivial,trivial⟩ ?_
 have hw:=Zok g [t,u] (by simp) (fun y hy=>by simp at hy;rcases hy with rfl | rfl<;>assumption)
 simp only [go_sem,Za8]
 refine VCall.isoT [2] hw ?_ (by simp [go_sem,Za7,Za5]) ?_
 ·simp only [go_sem,Za6,List.map_cons,List.map_nil]
 simp only [flatR,flatA,flatC,if_true]
 refine EvK.go 1000 ?_
 by_cases h:firstW g [t,u]=0
 ·obtain ⟨o1,o2⟩:=hok h
  rw [if_pos h]
  simp only [go_sem,h]
  refine VCall.isoT [] (Zn7 g hg hgl t.size t u (Nat.le_refl _) o1 o2) (by (try simp only [Za6]);exact Za1 _ _ _) (by simp [go_sem,Za7,Za0,Za5]) ?_;simp only [flatR,flatA,flatC,if_true];refine EvK.go 1000 ?_
  simp only [go_sem]
 ·rw [if_neg h]
  simp only [go_sem,h]
def okS (l:Li):Prop:=l.l.size<999999999∧l.r.size<999999999
def equalL (a b:Li):Bool:=(decide (a.l=b.l)&&decide (a.r=b.r))||(decide (a.l=b.r)&&decide (a.r=b.l))
theorem Zzk (a b:Li) (ha:okS a) (hb:okS b):CallEq Tryz.prog 69 [a.toA,b.toA] (.bool (equalL a b)):=by
 refine CallEq.begin (rs:=[.tmp 4]) (m:=29) 1000 Tryz.func69 rfl rfl rfl (by decide) trivial ?_
 obtain ⟨a1,a2⟩:=ha
 obtain ⟨b1,b2⟩:=hb
 have s1:=Zf0 a.l b.l (by omega) (by omega)
 have s2:=Zf0 a.r b.r (by omega) (by omega)
 have s3:=Zf0 a.l b.r (by omega) (by omega)
 have s4:=Zf0 a.r b.l (by omega) (by omega)
 unfold equalL
 generalize decide (a.l=b.l)=p1 at *
 generalize decide (a.r=b.r)=p2 at *
 generalize decide (a.l=b.r)=p3 at *
 generalize decide (a.r=b.l)=p4 at *
 simp only [go_sem,Zaw]
 refine VCall.isoT [] (s1) (by (try simp only [Za6]);exact Za1 _ _ _) (by simp [go_sem,Za7,Za0]) ?_;simp only [flatR,flatA,flatC,if_true];refine EvK.go 1000 ?_
 cases p1
 ·simp only [go_sem]
  refine VCall.isoT [] (s3) (by (try simp only [Za6]);exact Za1 _ _ _) (by simp [go_sem,Za7,Za0]) ?_;simp only [flatR,flatA,flatC,if_true];refine EvK.go 1000 ?_
  cases p3
  ·simp only [go_sem,Bool.false_and,Bool.or_false]
  ·simp only [go_sem]
   refine VCall.isoT [] (s4) (by (try simp only [Za6]);exact Za1 _ _ _) (by simp [go_sem,Za7,Za0]) ?_;simp only [flatR,flatA,flatC,if_true];refine EvK.go 1000 ?_
   simp only [go_sem,Bool.false_and,Bool.false_or,Bool.true_and]
 ·simp only [go_sem]
  refine VCall.isoT [] (s2) (by (try simp only [Za6]);exact Za1 _ _ _) (by simp [go_sem,Za7,Za0]) ?_;simp only [flatR,flatA,flatC,if_true];refine EvK.go 1000 ?_
  cases p2
  ·simp only [go_sem]
   refine VCall.isoT [] (s3) (by (try simp only [Za6]);exact Za1 _ _ _) (by simp [go_sem,Za7,Za0]) ?_;simp only [flatR,flatA,flatC,if_true];refine EvK.go 1000 ?_
   cases p3
   ·simp only [go_sem,Bool.false_and,Bool.and_false,Bool.or_false]
   ·simp only [go_sem]
    refine VCall.isoT [] (s4) (by (try simp only [Za6]);exact Za1 _ _ _) (by simp [go_sem,Za7,Za0]) ?_;simp only [flatR,flatA,flatC,if_true];refine EvK.go 1000 ?_
    simp only [go_sem,Bool.and_false,Bool.false_or,Bool.true_and]
  ·simp only [go_sem,Bool.and_true,Bool.true_or]
theorem Yer (a b:Li) (ha:okS a) (hb:okS b):CallEq Tryz.prog 38 [a.toA,b.toA] (.bool (decide (a.neg=b.neg)&&equalL a b)):=by
 refine CallEq.begin (rs:=[.tmp 4]) (m:=13) 1000 Tryz.func38 rfl rfl rfl (by decide) trivial ?_
 have h:=Zzk a b ha hb
 simp only [go_sem,Zaw]
 have hd:decide (a.neg=b.neg)=(a.neg==b.neg):=rfl
 rw [hd]
 cases c:a.neg==b.neg
 ·simp only [go_sem,c,Bool.false_and]
 ·simp only [go_sem,c]
  refine VCall.isoT [] h (Za1 _ _ _) ⟨Zcp _,Zcp _,trivial⟩ ?_
  simp only [flatR,flatA,flatC,if_true]
  refine EvK.go 1000 ?_
  simp only [go_sem,Bool.true_and]
def rowL (l:Li):List Tm:=if l.neg then [l.l,l.l,l.r,l.r] else [l.l,l.r]
theorem Zyr (l:Li):CallEq Tryz.prog 71 [l.toA] (.ps 2 ((rowL l).map Tm.toA)):=by
 refine CallEq.begin (rs:=[.tmp 2]) (m:=18) 1000 Tryz.func71 rfl rfl rfl (by decide) (Za0 _) ?_
 unfold rowL
 cases h:l.neg
 ·simp only [go_sem,Zaw,h,Bool.false_eq_true,if_false,List.map_cons,List.map_nil]
  rw [Za6 l.l,Za6 l.r]
  exact ⟨Zdx _ _ _,Zdx _ _ _⟩
 ·simp only [go_sem,Zaw,h,if_true,List.map_cons,List.map_nil]
  rw [Za6 l.l,Za6 l.r]
  repeat (first | exact Zdx _ _ _ | exact Za1 _ _ _ | refine ⟨Zdx _ _ _,?_⟩)
def dropAt (l:List Tm) (i:Nat):List Tm:=l.take i++l.drop (i+1)
def restF:List Tm→List Tm→List Tm
 | [],_=>[]
 | t :: a,b=>if idxF (fun x=>decide (t=x)) b 0<0 then t :: restF a b else restF a (dropAt b (idxF (fun x=>decide (t=x)) b 0).toNat)
theorem Zs1 (l:List Tm) (hl:l.length≤1000000000):VCall Tryz.prog (.fn 127 [] []) [.ps 2 (l.map Tm.toA)] [] (fun r σ'=>(r = .os 1 0 l.length 2∧σ'=[none,some (.row (l.map Tm.toA) 0)])∨(l=[]∧r = .nils∧σ'=[])):=by
 by_cases h:l=[]
 ·subst h
  refine (CallSh.v Zr8).mono ?_
  rintro r σ' (⟨rfl,rfl⟩ | ⟨rfl,rfl⟩)
  ·exact .inr ⟨rfl,rfl,rfl⟩
  ·exact .inl ⟨rfl,rfl⟩
 ·refine (CallSh.v (Ze7 l h hl).1).mono ?_
  rintro r σ' ⟨rfl,rfl⟩
  exact .inl ⟨rfl,rfl⟩
theorem Ybt (σ:Store) (b:Nat) (t x:Tm) (hb:getS σ b=some (.var [.int .i64 t.head, .ps 2 (t.args.map Tm.toA)])) (hs:lowSo σ.length σ) (ht:t.size<999999999) (hx:x.size<999999999) :
  VCall Tryz.prog (.fn 144 [] [.ptr b 0]) [x.toA] σ (fun r σ'=>r = .bool (decide (t=x))∧σ' = σ):=by
 have h:CallEq Tryz.prog 144 [x.toA, .pp [.int .i64 t.head, .ps 2 (t.args.map Tm.toA)]] (.bool (decide (t=x))):=by
  refine CallEq.begin (rs:=[.tmp 3]) (m:=5) 1000 Tryz.func144 rfl rfl rfl (by decide) trivial ?_
  simp only [go_sem,Za8]
  refine VCall.isoT [] (Zf0 t x (by omega) (by omega)) (by (try simp only [Za6]);exact Za1 _ _ _) (by simp [go_sem,Za7,Za0]) ?_;simp only [flatR,flatA,flatC,if_true];refine EvK.go 1000 ?_
  simp only [go_sem]
 refine VCall.isoE (b:=b) (cs:=[.int .i64 t.head, .ps 2 (t.args.map Tm.toA)]) [] hb h ?_ ⟨Za7 x,⟨trivial,Za0 _,trivial⟩,trivial⟩ rfl ⟨rfl,rfl⟩
 have h1:exA b [.int .i64 t.head, .ps 2 (t.args.map Tm.toA)] x.toA=x.toA:=by rw [Za6];rfl
 have h2:exA b [.int .i64 t.head, .ps 2 (t.args.map Tm.toA)] (.ptr b 0) = .pp [.int .i64 t.head, .ps 2 (t.args.map Tm.toA)]:=by simp [exA,exP]
 simp only [List.nil_append,List.cons_append,List.map_cons,List.map_nil,h1,h2]
 exact Za1 _ _ _
theorem Zua (a b:List Tm) (ha:a.length<1000000) (hb:b.length<1000000) (hsa:∀ t∈a,t.size<99999999) (hsb:∀ t∈b,t.size<99999999):CallEq Tryz.prog 109 [.ps 2 (a.map Tm.toA), .ps 2 (b.map Tm.toA)] (.ps 2 ((restF a b).map Tm.toA)):=by
 refine CallEq.begin (rs:=[.tmp 4]) (m:=32) 1000 Tryz.func109 rfl rfl rfl (by decide) (Za0 _) ?_
 simp only [go_sem]
 refine (Zs1 b (by omega)).mono ?_
 rintro r σ' (⟨rfl,rfl⟩ | ⟨rfl,rfl,rfl⟩)
 ·refine EvK.go 1000 ?_
  simp only [go_sem,List.length_map]
  refine EvK.loopR (ι:={q:Nat×List Tm×List Tm // q.1≤a.length∧q.2.1++restF (a.drop q.1) q.2.2=restF a b∧q.2.1.length≤q.1∧q.2.2.length≤b.length∧∀ x∈q.2.2,x.size<99999999}) 1000
   (fun q=>mkT 34 [(4, .nils),(5, .os 1 0 q.1.2.2.length 2),(6,slA 2 2 (q.1.2.1.map Tm.toA)),(12, .ps 2 (a.map Tm.toA)),(13, .int .i64 a.length),(14, .int .i64 q.1.1)])
   (fun q=>[none,some (.row (q.1.2.2.map Tm.toA) 0),slB (q.1.2.1.map Tm.toA)]) (fun q=>a.length - q.1.1) ⟨(0,[],b),by simpa using hsb⟩ [] ?_ (fun _=>Nat.zero_le _) ?_
  ·refine Zb0 rfl ?_
   simp only [go_sem,Za0,Za2 (Za0 _),List.map_nil,Zcd,Zc7]
  ·rintro ⟨⟨i,L,c⟩,hi,hpre,hLi,hcl,hcs⟩
   simp only at hi hpre hLi hcl hcs
   by_cases hlt:(i:Int)<a.length
   ·have hlt':i<a.length:=by omega
    have hw:IntKind.i64.wrap ((i:Int)+1)=((i+1:Nat):Int):=by rw [Zab (by omega)];omega
    have hg1:(a.map Tm.toA).getD i .undef=a[i].toA:=Zaq hlt'
    have hts:=hsa _ (List.getElem_mem hlt')
    rw [List.drop_eq_getElem_cons hlt',restF] at hpre
    generalize a[i]=t at *
    simp only [go_sem,hlt,List.length_map,hg1,Za8]
    refine ⟨by omega,?_⟩
    refine (Zr5 _ (.fn 144 [] [.ptr 3 0]) (fun x=>decide (t=x)) c rfl (by omega) ?_ ?_ (fun j hj=>Ybt _ 3 t c[j] rfl ?_ (by omega) (by have:=hcs _ (List.getElem_mem hj);omega))).mono ?_
    ·simp only [go_sem,Za0]
    ·simp only [go_sem]
    ·simp only [go_sem,Za0]
    rintro r σ' ⟨rfl,rfl⟩
    rcases Zfy (fun x=>decide (t=x)) c 0 (by omega) with ⟨q1,_⟩ | ⟨k,q1,q2,_⟩
    ·rw [q1] at hpre ⊢
     rw [if_pos (by omega)] at hpre
     refine EvK.go 1000 ?_
     simp only [go_sem,Int.reduceNeg,Int.reduceLT]
     have h2:getS [none,some (Blk.row (c.map Tm.toA) 0),slB (L.map Tm.toA),some (Blk.var [.int .i64 t.head, .ps 2 (t.args.map Tm.toA)]),some (Blk.row [.agg [.int .i64 t.head, .ps 2 (t.args.map Tm.toA)]] 0)] 2=slB (L.map Tm.toA):=rfl
     have ho1:=of_eq_true (Zhj [t])
     rw [show [t].map Tm.toA=[t.toA] from rfl,Za6 t] at ho1
     simp only [go_sem,Ze3 h2,ho1,List.length_map,hw]
     refine ⟨by omega,⟨(i+1,L++[t],c),by simp only;omega,by rw [← hpre];simp,by simp only [List.length_append,List.length_cons,List.length_nil];omega,hcl,hcs⟩,[(2,5),(5,2)],Zb0 rfl ?_,by simp only;omega⟩
     have lw:lowL 0 ((L++[t]).map Tm.toA):=Za0 _
     dsimp only
     rw [List.map_append] at lw ⊢
     rw [Ze4 (by simp),Zdz (by simp)]
     simp only [List.map_cons,List.map_nil,Za6 t] at lw
     simp only [go_sem,Za0,Za2 (Za0 _),Za2 lw,Zac (Nat.zero_le 3) lw,List.length_map,List.length_cons,List.length_nil,List.map_cons,List.map_nil,Za6 t]
    ·have hk0:(0:Int)+k=k:=by omega
     rw [q2,hk0] at hpre ⊢
     rw [if_neg (by omega),Int.toNat_natCast] at hpre
     have hnk:¬ (k:Int)<0:=by omega
     have hwk:IntKind.i64.wrap ((k:Int)+1)=((k+1:Nat):Int):=by rw [Zab (by omega)];omega
     refine EvK.go 1000 ?_
     simp only [go_sem,hnk,hwk]
     refine VCall.at1R (f:=.fn 145 [] []) (args:=[.os 0 0 c.length 2, .int .i64 k, .int .i64 ((k+1:Nat):Int)]) (B:=.row (c.map Tm.toA) 0) 1 rfl (Za0 _) ⟨trivial,trivial⟩ ⟨Nat.zero_lt_one,trivial,trivial,trivial⟩ ((Zvo c k q1 (by omega)).mono ?_)
     rintro r σ' ⟨rfl,rfl⟩
     refine ⟨Nat.zero_lt_one,_,rfl,Za0 _,?_⟩
     have hdl:(dropAt c k).length=c.length - 1:=by simp only [dropAt,List.length_append,List.length_take,List.length_drop];omega
     rw [show c.take k++c.drop (k+1)=dropAt c k from rfl,← hdl]
     simp only [go_sem,List.set_cons_succ,List.set_cons_zero]
     refine EvK.go 1000 ?_
     simp only [go_sem,hw]
     refine ⟨⟨(i+1,L,dropAt c k),by simp only;omega,hpre,by simp only;omega,by simp only;omega,fun x hx=>?_⟩,[],Zb0 rfl ?_,by simp only;omega⟩
     ·rcases List.mem_append.1 hx with hx | hx
      ·exact hcs x (List.mem_of_mem_take hx)
      ·exact hcs x (List.mem_of_mem_drop hx)
     simp only [go_sem,Za0,Za2 (Za0 _),Zka (Za0 L)]
   ·have hi':i=a.length:=by omega
    subst hi'
    rw [List.drop_length,restF,List.append_nil] at hpre
    simp only [go_sem,hlt]
    refine EvK.go 1000 ?_
    simp only [go_sem]
    rw [← hpre,Zej rfl rfl];trivial
 ·refine EvK.go 1000 ?_
  simp only [go_sem,List.length_map]
  refine EvK.loopR (ι:={q:Nat×List Tm // q.1≤a.length∧q.2++restF (a.drop q.1) []=restF a []∧q.2.length≤q.1}) 1000
   (fun q=>mkT 34 [(4, .nils),(5, .nils),(6,slA 0 2 (q.1.2.map Tm.toA)),(12, .ps 2 (a.map Tm.toA)),(13, .int .i64 a.length),(14, .int .i64 q.1.1)])
   (fun q=>[slB (q.1.2.map Tm.toA)]) (fun q=>a.length - q.1.1) ⟨(0,[]),by simp⟩ [] ?_ (fun _=>Nat.zero_le _) ?_
  ·refine Zb0 rfl ?_
   simp only [go_sem,Za0,Za2 (Za0 _),List.map_nil,Zcd,Zc7]
  ·rintro ⟨⟨i,L⟩,hi,hpre,hLi⟩
   simp only at hi hpre hLi
   by_cases hlt:(i:Int)<a.length
   ·have hlt':i<a.length:=by omega
    have hw:IntKind.i64.wrap ((i:Int)+1)=((i+1:Nat):Int):=by rw [Zab (by omega)];omega
    have hg1:(a.map Tm.toA).getD i .undef=a[i].toA:=Zaq hlt'
    have hts:=hsa _ (List.getElem_mem hlt')
    rw [List.drop_eq_getElem_cons hlt',restF,if_pos (by simp [idxF])] at hpre
    generalize a[i]=t at *
    simp only [go_sem,hlt,List.length_map,hg1,Za8]
    refine ⟨by omega,?_⟩
    refine VCall.asT (args':=[.ps 2 (([]:List Tm).map Tm.toA), .fn 144 [] [.ptr 1 0]]) ?_ ?_
    ·simp only [go_sem,List.map_nil]
    refine (Zlw _ (.fn 144 [] [.ptr 1 0]) (fun x=>decide (t=x)) [] (by simp) ?_ ?_ (fun j hj=>by simp at hj)).mono ?_
    ·simp only [go_sem,Za0]
    ·simp only [go_sem]
    rintro r σ' ⟨rfl,rfl⟩
    rw [show idxF (fun x=>decide (t=x)) [] 0 = -1 from rfl]
    refine EvK.go 1000 ?_
    simp only [go_sem,Int.reduceNeg,Int.reduceLT]
    have h2:getS [slB (L.map Tm.toA),some (Blk.var [.int .i64 t.head, .ps 2 (t.args.map Tm.toA)]),some (Blk.row [.agg [.int .i64 t.head, .ps 2 (t.args.map Tm.toA)]] 0)] 0=slB (L.map Tm.toA):=rfl
    have ho1:=of_eq_true (Zhj [t])
    rw [show [t].map Tm.toA=[t.toA] from rfl,Za6 t] at ho1
    simp only [go_sem,Ze3 h2,ho1,List.length_map,hw]
    refine ⟨by omega,⟨(i+1,L++[t]),by simp only;omega,by rw [← hpre];simp,by simp only [List.length_append,List.length_cons,List.length_nil];omega⟩,[(0,3),(3,0)],Zb0 rfl ?_,by simp only;omega⟩
    have lw:lowL 0 ((L++[t]).map Tm.toA):=Za0 _
    dsimp only
    rw [List.map_append] at lw ⊢
    rw [Ze4 (by simp),Zdz (by simp)]
    simp only [List.map_cons,List.map_nil,Za6 t] at lw
    simp only [go_sem,Za0,Za2 (Za0 _),Za2 lw,Zac (Nat.zero_le 1) lw,List.length_map,List.length_cons,List.length_nil,List.map_cons,List.map_nil,Za6 t]
   ·have hi':i=a.length:=by omega
    subst hi'
    rw [List.drop_length,restF,List.append_nil] at hpre
    simp only [go_sem,hlt]
    refine EvK.go 1000 ?_
    simp only [go_sem]
    rw [← hpre,Zej rfl rfl];trivial
def beats (g:List Sy) (a:List Tm) (y:Tm):Bool:=a.any fun x=>decide (standF g x y=1)
def overF (g:List Sy) (a b:List Tm):Bool:=decide (0<a.length) && !(b.any fun y=>!beats g a y)
def tvB (t:Tm):Option Blk:=some (.var [.int .i64 t.head, .ps 2 (t.args.map Tm.toA)])
def ovS (g:List Sy) (a:List Tm):Store:=[some (.var [.ps 4 (syms g)]),some (.var [.ps 2 (a.map Tm.toA)]),some (.var [.fn 146 [] [.ptr 1 0, .ptr 0 0]])]
theorem Zyg (g:List Sy) (hg:gOk g) (hgl:g.length<1000000) (a:List Tm) (x y:Tm) (hx:tmOk g x) (hy:tmOk g y) :
  VCall Tryz.prog (.fn 148 [] [.ptr 0 0, .ptr 4 0]) [x.toA] (ovS g a++[tvB y,tvB y]) (fun r σ'=>r = .bool (decide (standF g x y=1))∧σ'=ovS g a++[tvB y,tvB y]):=by
 unfold ovS tvB
 refine VCall.begin (rs:=[.tmp 4]) (m:=7) 1000 Tryz.func148 rfl rfl rfl rfl rfl ?_
 have hs:=Zn7 g hg hgl x.size x y (Nat.le_refl _) hx hy
 simp only [go_sem,Za8,List.cons_append,List.nil_append]
 refine VCall.isoT [] hs (by simp only [Za6,List.cons_append,List.nil_append,List.append_nil];exact Za1 _ _ _) (by simp [go_sem,Za7,Za5]) ?_
 simp only [flatR,flatA,flatC,if_true]
 refine EvK.go 1000 ?_
 simp only [go_sem]
 rw [Zax]
 exact ⟨ovS g a++[tvB y,tvB y],by simp [ovS,tvB,go_sem],by simp [ovS],by simp [ovS,tvB,go_sem,Za5,Za0],trivial,rfl,rfl⟩
theorem Zmf (g:List Sy) (a:List Tm) (l:List Tm) {n:Nat} (hn:n=3+l.length):lowSo n (ovS g a++l.map tvB):=by
 subst hn
 refine Zas ?_ ?_
 ·refine Zam (Nat.le_add_right 3 _) ?_
  simp [ovS,go_sem,Za5,Za0]
 ·induction l with
  | nil=>trivial
  | cons x l ih=>exact ⟨⟨trivial,Za0 _,trivial⟩,Zam (by simp) ih⟩
theorem Yi7 (g:List Sy) (hg:gOk g) (hgl:g.length<1000000) (a:List Tm) (y:Tm) (ha:∀ x∈a,tmOk g x) (hal:a.length<1000000) (hy:tmOk g y) :
  VCall Tryz.prog (.fn 146 [] [.ptr 1 0, .ptr 0 0]) [y.toA] (ovS g a++[tvB y]) (fun r σ'=>r = .bool (beats g a y)∧σ'=ovS g a++[tvB y]):=by
 refine VCall.begin (rs:=[.tmp 4]) (m:=5) 1000 Tryz.func146 rfl rfl rfl rfl rfl ?_
 have hc:=Zdy (ovS g a++[tvB y,tvB y]) (.fn 148 [] [.ptr 0 0, .ptr 4 0]) (fun x=>decide (standF g x y=1)) a (by omega) (Zmf g a [y,y] rfl) (by simp [ovS,go_sem]) (fun i h=>Zyg g hg hgl a a[i] y (ha _ (List.getElem_mem h)) hy)
 unfold ovS tvB at hc ⊢
 simp only [go_sem,Za8,List.cons_append,List.nil_append]
 refine hc.mono ?_
 rintro r σ' ⟨rfl,rfl⟩
 refine EvK.go 1000 ?_
 simp only [go_sem,List.cons_append,List.nil_append]
 rw [Zax]
 exact ⟨ovS g a++[tvB y],by simp [ovS,tvB,go_sem],by simp [ovS],Zmf g a [y] rfl,trivial,rfl,rfl⟩
theorem Ygl (g:List Sy) (hg:gOk g) (hgl:g.length<1000000) (a:List Tm) (y:Tm) (ha:∀ x∈a,tmOk g x) (hal:a.length<1000000) (hy:tmOk g y) :
  VCall Tryz.prog (.fn 149 [] [.ptr 2 0]) [y.toA] (ovS g a) (fun r σ'=>r = .bool (!beats g a y)∧σ'=ovS g a):=by
 refine VCall.begin (rs:=[.tmp 3]) (m:=6) 1000 Tryz.func149 rfl rfl rfl rfl rfl ?_
 have hc:=Yi7 g hg hgl a y ha hal hy
 rw [Za6 y] at hc
 unfold ovS tvB at hc
 unfold ovS
 simp only [go_sem,Za8,List.cons_append,List.nil_append]
 refine hc.mono ?_
 rintro r σ' ⟨rfl,rfl⟩
 refine EvK.go 1000 ?_
 simp only [go_sem,List.cons_append,List.nil_append]
 rw [Zax]
 exact ⟨ovS g a,by simp [ovS,tvB,go_sem],by simp [ovS],(show lowSo 3 (ovS g a) by simpa using Zmf g a [] rfl),trivial,rfl,rfl⟩
theorem Zti (g:List Sy) (hg:gOk g) (hgl:g.length<1000000) (a b:List Tm) (ha:∀ x∈a,tmOk g x) (hb:∀ x∈b,tmOk g x) (hal:a.length<1000000) (hbl:b.length<1000000) :
  CallEq Tryz.prog 110 [.ps 4 (syms g), .ps 2 (a.map Tm.toA), .ps 2 (b.map Tm.toA)] (.bool (overF g a b)):=by
 refine CallEq.begin (rs:=[.tmp 6]) (m:=15) 1000 Tryz.func110 rfl rfl rfl (by decide) trivial ?_
 have hc:=Zdy (ovS g a) (.fn 149 [] [.ptr 2 0]) (fun y=>!beats g a y) b (by omega) (show lowSo 3 (ovS g a) by simpa using Zmf g a [] rfl) (by simp [ovS,go_sem]) (fun i h=>Ygl g hg hgl a b[i] ha hal (hb _ (List.getElem_mem h)))
 unfold ovS at hc
 by_cases h:(0:Int)<a.length
 ·have h' : 0<a.length:=by omega
  simp only [go_sem,List.length_map,h]
  refine hc.mono ?_
  rintro r σ' ⟨rfl,rfl⟩
  refine EvK.go 1000 ?_
  simp only [go_sem,overF,h',decide_true,Bool.true_and]
 ·have h':¬ 0<a.length:=by omega
  simp only [go_sem,List.length_map,h,overF,h',decide_false,Bool.false_and]
theorem Yaw (n:Nat) (hn:n<10000000):VCall Tryz.prog (.fn 142 [] []) [.nils, .int .i64 n] [] (fun r σ'=>(n=0∧r = .nils∧σ'=[])∨∃ J,lowL 0 J∧r = .os 0 0 0 2∧σ'=[some (.row J 0)]):=by
 refine VCall.begin (rs:=[.tmp 4]) (m:=25) 1000 Tryz.func142 rfl rfl rfl rfl rfl ?_
 have h1:¬ (n:Int)<0:=by omega
 have hw:IntKind.i64.wrap (n:Int)=n:=Zab (by omega)
 have hw0:IntKind.i64.wrap 0=0:=Zab (by omega)
 by_cases h:(0:Int)<n
 ·have h2:¬ n=0:=by omega
  have h3:n≤6000000000000:=by omega
  have hz:appOk ⟨2,true,32,[.int .i64 0, .nils], .struct⟩ (List.replicate n (.agg [.int .i64 0, .nils])):=⟨fun x hx=>by rw [(List.mem_replicate.1 hx).2];exact ⟨rfl,rfl⟩,by decide,by decide,rfl⟩
  simp only [go_sem,h1,hw,hw0,h,hz,List.length_replicate,h2,h3]
  have hJ:∀ k m,lowL k (List.replicate m (AVal.agg [.int .i64 0, .nils])):=fun k m=>by
   induction m with
   | zero=>trivial
   | succ m ih=>rw [List.replicate_succ];exact ⟨⟨trivial,trivial,trivial⟩,ih⟩
  refine ⟨⟨by omega,by omega⟩,by omega,?_⟩
  rw [Zax]
  exact ⟨_,Za9 _,Nat.zero_le _,⟨hJ _ _,trivial⟩,Nat.zero_lt_one,_,hJ _ _,rfl,rfl⟩
 ·simp only [go_sem,h1,hw,hw0,h]
  rw [Zax]
  exact ⟨[],trivial,Nat.le_refl _,trivial,trivial, .inl ⟨by omega,rfl,rfl⟩⟩
def ccN (a b:List Tm):Nat→Nat
 | 0=>0
 | 1=>a.length
 | _=>a.length+b.length
def ccR (a b:List Tm) (J:List AVal):Nat→List AVal
 | 0=>J
 | 1=>a.map Tm.toA
 | _=>(a++b).map Tm.toA
theorem Zrc (a b:List Tm) (ha:a.length<1000000) (hb:b.length<1000000):CallEq Tryz.prog 108 [.ps 1 [.ps 2 (a.map Tm.toA), .ps 2 (b.map Tm.toA)]] (.ps 2 ((a++b).map Tm.toA)):=by
 refine CallEq.begin (rs:=[.tmp 2]) (m:=35) 1000 Tryz.func108 rfl rfl rfl (by decide) (Za0 _) ?_
 have c0:ccN a b 0=0:=rfl
 have c1:ccN a b 1=a.length:=rfl
 have c2:ccN a b 2=a.length+b.length:=rfl
 have hc2:((2:Nat):Int)=2:=rfl
 have hw1:IntKind.i64.wrap ((1:Int)+1)=((2:Nat):Int):=Zab (by omega)
 simp only [go_sem,List.length_cons,List.length_nil]
 refine EvK.loopI (ι:={i:Nat // i≤2}) 1000 (fun q=>mkT 36 [(0, .ps 1 [.ps 2 (a.map Tm.toA), .ps 2 (b.map Tm.toA)]),(2, .nils),(3, .int .i64 (ccN a b q.1)),(9, .ps 1 [.ps 2 (a.map Tm.toA), .ps 2 (b.map Tm.toA)]),(10, .int .i64 ((2:Nat):Int)),(11, .int .i64 q.1)])
  (fun _=>[]) (fun q=>2 - q.1) ⟨0,by omega⟩ ?_ (fun _=>Nat.zero_le _) ?_
 ·simp only [go_sem,c0,hc2,Za0]
 ·rintro ⟨i,hi⟩
  obtain rfl | rfl | rfl:i=0∨i=1∨i=2:=by omega
  ·have hw:IntKind.i64.wrap (a.length:Int)=a.length:=Zab (by omega)
   have hn:¬ (a.length:Int)<0:=by omega
   simp only [go_sem,c0,hc2,List.length_map,hw,hn,List.getD_cons_zero]
   exact ⟨⟨1,by omega⟩,⟨⟨rfl,rfl⟩,Za0 _,Za0 _⟩,by simp only;omega⟩
  ·have hw:IntKind.i64.wrap ((a.length:Int)+b.length)=((a.length+b.length:Nat):Int):=by rw [Zab (by omega)];omega
   have hn:¬ ((a.length+b.length:Nat):Int)<0:=by omega
   simp only [go_sem,c1,hc2,List.length_map,hw,hn,List.getD_cons_zero,List.getD_cons_succ]
   exact ⟨⟨2,by omega⟩,⟨⟨rfl,by rw [hw1]⟩,Za0 _,Za0 _⟩,by simp only;omega⟩
  ·simp only [go_sem,c2,hc2,Int.lt_irrefl]
   refine EvK.go 1000 ?_
   simp only [go_sem]
   refine (Yaw (a.length+b.length) (by omega)).mono ?_
   rintro r σ' (⟨hz,rfl,rfl⟩ | ⟨J,hJ,rfl,rfl⟩)
   ·have ha0:a=[]:=List.eq_nil_of_length_eq_zero (by omega)
    have hb0:b=[]:=List.eq_nil_of_length_eq_zero (by omega)
    subst ha0;subst hb0
    refine EvK.go 1000 ?_
    simp only [go_sem,List.map_nil,List.length_cons,List.length_nil]
    refine EvK.loopI (ι:={i:Nat // i≤2}) 1000 (fun q=>mkT 36 [(2, .nils),(6, .nils),(25, .ps 1 [.ps 2 [], .ps 2 []]),(26, .int .i64 ((2:Nat):Int)),(27, .int .i64 q.1)])
     (fun _=>[]) (fun q=>2 - q.1) ⟨0,by omega⟩ ?_ (fun _=>Nat.zero_le _) ?_
    ·simp only [go_sem,hc2]
    ·rintro ⟨i,hi⟩
     obtain rfl | rfl | rfl:i=0∨i=1∨i=2:=by omega
     ·simp only [go_sem,hc2,List.getD_cons_zero,List.length_nil]
      exact ⟨of_eq_true (Zhj []),⟨1,by omega⟩,rfl,by simp only;omega⟩
     ·simp only [go_sem,hc2,List.getD_cons_zero,List.getD_cons_succ,List.length_nil]
      exact ⟨of_eq_true (Zhj []),⟨2,by omega⟩,by rw [hw1],by simp only;omega⟩
     ·simp only [go_sem,hc2,Int.lt_irrefl]
      refine EvK.go 1000 ?_
      simp only [go_sem,List.append_nil,List.map_nil]
   ·refine EvK.go 1000 ?_
    simp only [go_sem,List.length_cons,List.length_nil]
    refine EvK.loopR (ι:={i:Nat // i≤2}) 1000 (fun q=>mkT 36 [(2, .nils),(6, .os 0 0 (ccN a b q.1) 2),(25, .ps 1 [.ps 2 (a.map Tm.toA), .ps 2 (b.map Tm.toA)]),(26, .int .i64 ((2:Nat):Int)),(27, .int .i64 q.1)])
     (fun q=>[some (.row (ccR a b J q.1) 0)]) (fun q=>2 - q.1) ⟨0,by omega⟩ [] ?_ (fun _=>Nat.zero_le _) ?_
    ·refine Zb0 rfl ?_
     simp only [go_sem,hc2,c0,show ccR a b J 0=J from rfl,Za0,Za2 (Za0 _),Za2 hJ,Zac (Nat.zero_le 1) hJ]
    ·rintro ⟨i,hi⟩
     obtain rfl | rfl | rfl:i=0∨i=1∨i=2:=by omega
     ·simp only [go_sem,hc2,c0,show ccR a b J 0=J from rfl,List.getD_cons_zero,List.length_map]
      refine ⟨⟨by omega,by omega⟩,⟨1,by omega⟩,[(0,1),(1,0)],Zb0 rfl ?_,by simp only;omega⟩
      simp only [go_sem,hc2,c1,show ccR a b J 1=a.map Tm.toA from rfl,Za0,Za2 (Za0 _)]
     ·simp only [go_sem,hc2,c1,show ccR a b J 1=a.map Tm.toA from rfl,List.getD_cons_zero,List.getD_cons_succ,List.length_map]
      refine ⟨⟨by omega,by omega⟩,⟨2,by omega⟩,[(0,1),(1,0)],Zb0 rfl ?_,by simp only;omega⟩
      simp only [go_sem,hc2,hw1,c2,show ccR a b J 2=(a++b).map Tm.toA from rfl,Za0,Za2 (Za0 _),List.map_append]
      have lw:lowL 0 (a.map Tm.toA++b.map Tm.toA):=Zbq (Za0 a) (Za0 b)
      rw [List.take_of_length_le (by simp),Za2 lw]
      exact ⟨rfl,Zac (Nat.zero_le 1) lw⟩
     ·simp only [go_sem,hc2,c2,show ccR a b J 2=(a++b).map Tm.toA from rfl,Int.lt_irrefl]
      refine EvK.go 1000 ?_
      simp only [go_sem,List.length_map,List.length_append]
      rw [List.take_of_length_le (by simp)]
      exact Za1 _ _ _
theorem Zha:∀ (a b:List Tm) (t:Tm),t∈restF a b→t∈a
 | [],_,t,h=>by rw [restF] at h;cases h
 | x :: a,b,t,h=>by
  rw [restF] at h
  split at h
  ·rcases List.mem_cons.1 h with rfl | h
   ·simp
   ·exact List.mem_cons_of_mem _ (Zha a b t h)
  ·exact List.mem_cons_of_mem _ (Zha a _ t h)
theorem Zhf:∀ (a b:List Tm),(restF a b).length≤a.length
 | [],_=>by rw [restF];exact Nat.le_refl _
 | x :: a,b=>by
  rw [restF]
  split
  ·have:=Zhf a b;simp only [List.length_cons];omega
  ·have:=Zhf a (dropAt b (idxF (fun y=>decide (x=y)) b 0).toNat);simp only [List.length_cons];omega
def multiF (g:List Sy) (a b:List Tm):Int :=
 if (restF a b).length+(restF b a).length=0 then 0 else if overF g (restF a b) (restF b a)=true then 1 else if overF g (restF b a) (restF a b)=true then -1 else 2
theorem Ygz (g:List Sy) (hg:gOk g) (hgl:g.length<1000000) (a b:List Tm) (ha:a.length<500000) (hb:b.length<500000) (hs:∀ t∈a++b,t.size<99999999) (hok:firstW g (a++b)=0→∀ t∈a++b,tmOk g t) :
  CallEq Tryz.prog 70 [.ps 4 (syms g), .ps 2 (a.map Tm.toA), .ps 2 (b.map Tm.toA)] (.tup [.int .i64 (if firstW g (a++b)=0 then multiF g a b else 0), .int .i64 (firstW g (a++b))]):=by
 refine CallEq.begin (rs:=[.tmp 6, .tmp 7]) (m:=40) 1000 Tryz.func70 rfl rfl rfl (by decide) ⟨trivial,trivial,trivial⟩ ?_
 have hw:=Zok g (a++b) (by simp;omega) hs
 have hsa:∀ t∈a,t.size<99999999:=fun t ht=>hs t (by simp [ht])
 have hsb:∀ t∈b,t.size<99999999:=fun t ht=>hs t (by simp [ht])
 simp only [go_sem]
 refine VCall.isoT [0] (Zrc a b (by omega) (by omega)) ?_ ⟨⟨Za0 a,Za0 b,trivial⟩,trivial⟩ ?_
 ·simp only [go_sem]
 generalize flatR _=fl
 have hres:∀ σ:Store,VCall Tryz.prog (.fn 107 [] []) [.ps 4 (syms g), .ps 2 ((a++b).map Tm.toA)] σ (fun r σ'=>r = .int .i64 (firstW g (a++b))∧σ' = σ):=fun σ=>by
  refine VCall.isoT [] hw (Za1 _ _ _) ⟨Za5 _,Za0 (a++b),trivial⟩ ?_
  simp only [flatR,flatA,flatC,if_true]
  exact ⟨trivial,trivial⟩
 obtain ⟨fz,hfz⟩:∃ fz,(if fl=true then [some (Blk.row [.ps 2 (a.map Tm.toA), .ps 2 (b.map Tm.toA)] 0)] else frzI (among [0]) 0 [some (Blk.row [.ps 2 (a.map Tm.toA), .ps 2 (b.map Tm.toA)] 0)])=[some (Blk.row [.ps 2 (a.map Tm.toA), .ps 2 (b.map Tm.toA)] fz)]:=by
  cases fl
  ·exact ⟨_,rfl⟩
  ·exact ⟨_,rfl⟩
 rw [hfz]
 refine EvK.go 1000 ?_
 simp only [go_sem]
 refine (hres _).mono ?_
 rintro r σ' ⟨rfl,rfl⟩
 by_cases h:firstW g (a++b)=0
 ·have hk:=hok h
  have hka:∀ t∈a,tmOk g t:=fun t ht=>hk t (by simp [ht])
  have hkb:∀ t∈b,tmOk g t:=fun t ht=>hk t (by simp [ht])
  have l1:=Zhf a b
  have l2:=Zhf b a
  have m1:∀ t∈restF a b,tmOk g t:=fun t ht=>hka t (Zha _ _ t ht)
  have m2:∀ t∈restF b a,tmOk g t:=fun t ht=>hkb t (Zha _ _ t ht)
  have o1:=Zti g hg hgl (restF a b) (restF b a) m1 m2 (by omega) (by omega)
  have o2:=Zti g hg hgl (restF b a) (restF a b) m2 m1 (by omega) (by omega)
  refine EvK.go 1000 ?_
  rw [if_pos h]
  simp only [go_sem,h]
  refine VCall.isoT [] (Zua a b (by omega) (by omega) hsa hsb) (Za1 _ _ _) ⟨Za0 a,Za0 b,trivial⟩ ?_
  rw [Zah];simp only [ite_self]
  refine EvK.go 1000 ?_
  simp only [go_sem]
  refine VCall.isoT [] (Zua b a (by omega) (by omega) hsb hsa) (Za1 _ _ _) ⟨Za0 b,Za0 a,trivial⟩ ?_
  rw [Zah];simp only [ite_self]
  have hmu:multiF g a b=if (restF a b).length+(restF b a).length=0 then 0 else if overF g (restF a b) (restF b a)=true then 1 else if overF g (restF b a) (restF a b)=true then -1 else 2:=rfl
  rw [hmu]
  generalize restF a b=x at *
  generalize restF b a=y at *
  have hw1:IntKind.i64.wrap ((x.length:Int)+y.length)=((x.length+y.length:Nat):Int):=by rw [Zab (by omega)];omega
  refine EvK.go 1000 ?_
  by_cases h1:x.length+y.length=0
  ·rw [if_pos h1]
   have h2:((x.length+y.length:Nat):Int)=0:=by omega
   simp only [go_sem,List.length_map,hw1,h2]
  ·rw [if_neg h1]
   have h2:¬ ((x.length+y.length:Nat):Int)=0:=by omega
   simp only [go_sem,List.length_map,hw1,h2]
   refine VCall.isoT [] o1 (Za1 _ _ _) ⟨Za5 _,Za0 x,Za0 y,trivial⟩ ?_
   simp only [flatR,flatA,flatC,if_true]
   refine EvK.go 1000 ?_
   cases h3:overF g x y
   ·simp only [go_sem,h3]
    refine VCall.isoT [] o2 (Za1 _ _ _) ⟨Za5 _,Za0 y,Za0 x,trivial⟩ ?_
    simp only [flatR,flatA,flatC,if_true]
    refine EvK.go 1000 ?_
    cases h4:overF g y x
    ·simp only [go_sem,h4]
    ·simp only [go_sem,h4]
   ·simp only [go_sem,h3]
 ·refine EvK.go 1000 ?_
  rw [if_neg h]
  simp only [go_sem,h]
def litOk (g:List Sy) (l:Li):Prop:=tmOk g l.l∧tmOk g l.r
def sizL (l:Li):Prop:=l.l.size<99999999∧l.r.size<99999999
theorem Zuz {l:Li} {t:Tm} (h:t∈rowL l):t=l.l∨t=l.r:=by
 unfold rowL at h
 split at h<;>simp at h<;>rcases h with rfl | rfl<;>simp
theorem Ztq (l:Li):(rowL l).length≤4:=by
 unfold rowL;split<;>simp
theorem Zcs {g:List Sy} {l:Li} (h:l.check g=0):l.l.term g=0∧l.r.term g=0:=by
 unfold Li.check at h
 by_cases h1:l.l.term g=0
 ·rw [if_neg (by simp [h1])] at h
  by_cases h2:l.r.term g=0
  ·exact ⟨h1,h2⟩
  ·rw [if_pos h2] at h;exact absurd h h2
 ·rw [if_pos h1] at h;exact absurd h h1
theorem Zjn {g:List Sy}:∀ {ts:List Tm},(∀ t∈ts,t.term g=0)→firstW g ts=0
 | [],_=>rfl
 | t :: ts,h=>by rw [firstW,if_pos (h t (by simp))];exact Zjn fun x hx=>h x (by simp [hx])
def cmpL (g:List Sy) (a b:Li):Int×Int:=if a.check g≠0 then (0,a.check g) else if b.check g≠0 then (0,b.check g) else (multiF g (rowL a) (rowL b),0)
theorem Zrz (g:List Sy) (hg:gOk g) (hgl:g.length<1000000) (a b:Li) (sa:sizL a) (sb:sizL b) (oa:a.check g=0→litOk g a) (ob:b.check g=0→litOk g b) :
  CallEq Tryz.prog 40 [.ps 4 (syms g),a.toA,b.toA] (.tup [.int .i64 (cmpL g a b).1, .int .i64 (cmpL g a b).2]):=by
 refine CallEq.begin (rs:=[.tmp 6, .tmp 7]) (m:=27) 1000 Tryz.func40 rfl rfl rfl (by decide) ⟨trivial,trivial,trivial⟩ ?_
 have c1:=Zkw g a (by have:=sa.1;omega) (by have:=sa.2;omega)
 have c2:=Zkw g b (by have:=sb.1;omega) (by have:=sb.2;omega)
 simp only [go_sem,Zaw]
 refine VCall.isoT [] c1 (Za1 _ _ _) ⟨Za5 _,Zcp _,trivial⟩ ?_
 simp only [flatR,flatA,flatC,if_true]
 refine EvK.go 1000 ?_
 by_cases h1:a.check g=0
 ·simp only [go_sem,h1]
  refine VCall.isoT [] c2 (Za1 _ _ _) ⟨Za5 _,Zcp _,trivial⟩ ?_
  simp only [flatR,flatA,flatC,if_true]
  refine EvK.go 1000 ?_
  by_cases h2:b.check g=0
  ·have hr:cmpL g a b=(multiF g (rowL a) (rowL b),0):=by unfold cmpL;rw [if_neg (by simp [h1]),if_neg (by simp [h2])]
   have hla:=Ztq a
   have hlb:=Ztq b
   have hmem:∀ t∈rowL a++rowL b,t.size<99999999∧tmOk g t∧t.term g=0:=fun t ht=>by
    rcases List.mem_append.1 ht with ht | ht
    ·rcases Zuz ht with rfl | rfl
     ·exact ⟨sa.1,(oa h1).1,(Zcs h1).1⟩
     ·exact ⟨sa.2,(oa h1).2,(Zcs h1).2⟩
    ·rcases Zuz ht with rfl | rfl
     ·exact ⟨sb.1,(ob h2).1,(Zcs h2).1⟩
     ·exact ⟨sb.2,(ob h2).2,(Zcs h2).2⟩
   have hm:=Ygz g hg hgl (rowL a) (rowL b) (by omega) (by omega) (fun t ht=>(hmem t ht).1) (fun _ t ht=>(hmem t ht).2.1)
   rw [Zjn (fun t ht=>(hmem t ht).2.2),if_pos rfl] at hm
   rw [hr]
   simp only [go_sem,h2]
   refine EvK.draw [] 2 2 mixed rfl rfl (by decide) ?_
   simp only [go_sem,padS]
   refine Zar (Zyr a) (Za1 _ _ _) ⟨Zcp _,trivial⟩ ?_
   simp only [go_sem]
   refine Zar (Zyr b) (Za1 _ _ _) ⟨Zcp _,trivial⟩ ?_
   simp only [go_sem]
   refine Zar hm (Za1 _ _ _) ⟨Za5 _,Za0 _,Za0 _,trivial⟩ ?_
   simp only [go_sem]
   refine EvK.go 1000 ?_
   simp only [go_sem]
  ·have hr:cmpL g a b=(0,b.check g):=by unfold cmpL;rw [if_neg (by simp [h1]),if_pos h2]
   rw [hr]
   simp only [go_sem,h2]
 ·have hr:cmpL g a b=(0,a.check g):=by unfold cmpL;rw [if_pos h1]
  rw [hr]
  simp only [go_sem,h1]
def sameL (a b:Li):Bool:=decide (a.neg=b.neg)&&equalL a b
def dropL (l:List Li) (i:Nat):List Li:=l.take i++l.drop (i+1)
def restC:List Li→List Li→List Li
 | [],_=>[]
 | t :: a,b=>if idxF (fun x=>sameL t x) b 0<0 then t :: restC a b else restC a (dropL b (idxF (fun x=>sameL t x) b 0).toNat)
def liB (t:Li):Option Blk:=some (.var [.bool t.neg, .int .i64 t.l.head, .ps 2 (t.l.args.map Tm.toA), .int .i64 t.r.head, .ps 2 (t.r.args.map Tm.toA)])
def fsB:Option Blk:=some (.var [.fn 38 [] []])
theorem Zzz (o1 o2 o3:Option Blk) (t x:Li) (hs:lowSo 5 [fsB,o1,o2,o3,liB t]) (ht:sizL t) (hx:sizL x) :
  VCall Tryz.prog (.fn 67 [] [.ptr 0 0, .ptr 4 0]) [x.toA] [fsB,o1,o2,o3,liB t] (fun r σ'=>r = .bool (sameL t x)∧σ'=[fsB,o1,o2,o3,liB t]):=by
 unfold fsB liB at hs ⊢
 refine VCall.begin (rs:=[.tmp 4]) (m:=6) 1000 Tryz.func67 rfl rfl rfl rfl rfl ?_
 have h:=Yer t x ⟨by have:=ht.1;omega,by have:=ht.2;omega⟩ ⟨by have:=hx.1;omega,by have:=hx.2;omega⟩
 simp only [go_sem,Zaw]
 refine VCall.isoT [] h (Za1 _ _ _) ⟨Zcp _,Zcp _,trivial⟩ ?_
 simp only [flatR,flatA,flatC,if_true]
 refine EvK.go 1000 ?_
 simp only [go_sem]
 rw [Zax]
 exact ⟨[fsB,o1,o2,o3,liB t],by simp [fsB,liB,go_sem,Zqh],by simp,hs,trivial,rfl,rfl⟩
theorem Ztl (a b:List Li) (hb0:b≠[]) (ha:a.length<1000000) (hb:b.length<1000000) (hsa:∀ t∈a,sizL t) (hsb:∀ t∈b,sizL t):CallEq Tryz.prog 37 [.ps 5 (lits a), .ps 5 (lits b), .fn 38 [] []] (.ps 5 (lits (restC a b))):=by
 refine CallEq.begin (rs:=[.tmp 6]) (m:=33) 1000 Tryz.func37 rfl rfl rfl (by decide) (Za3 _) ?_
 simp only [go_sem]
 refine VCall.isoN [] (Zlo b hb0 (by omega)) (Za1 _ _ _) ⟨Za3 _,trivial⟩ ?_
 rw [Zah]
 simp only [Zft,Zg5,Zhv,Zdv,Zm8,up,Za2 (Za3 _)]
 refine EvK.go 1000 ?_
 simp only [go_sem,Zaf]
 refine EvK.loopR (ι:={q:Nat×List Li×List Li // q.1≤a.length∧q.2.1++restC (a.drop q.1) q.2.2=restC a b∧q.2.1.length≤q.1∧q.2.2.length≤b.length∧∀ x∈q.2.2,sizL x}) 1000
  (fun q=>mkT 36 [(5, .ptr 0 0),(6, .nils),(7, .os 2 0 q.1.2.2.length 5),(8,slA 3 5 (lits q.1.2.1)),(14, .ps 5 (lits a)),(15, .int .i64 a.length),(16, .int .i64 q.1.1)])
  (fun q=>[fsB,none,some (.row (lits q.1.2.2) 0),slB (lits q.1.2.1)]) (fun q=>a.length - q.1.1) ⟨(0,[],b),by simpa using hsb⟩ [] ?_ (fun _=>Nat.zero_le _) ?_
 ·refine Zb0 rfl ?_
  unfold fsB
  simp only [go_sem,Za3,Za2 (Za3 _),show lits []=[] from rfl,Zcd,Zc7]
 ·rintro ⟨⟨i,L,c⟩,hi,hpre,hLi,hcl,hcs⟩
  simp only at hi hpre hLi hcl hcs
  by_cases hlt:(i:Int)<a.length
  ·have hlt':i<a.length:=by omega
   have hw:IntKind.i64.wrap ((i:Int)+1)=((i+1:Nat):Int):=by rw [Zab (by omega)];omega
   have hg1:=Zc6 hlt'
   have hts:=hsa _ (List.getElem_mem hlt')
   rw [List.drop_eq_getElem_cons hlt',restC] at hpre
   generalize a[i]=t at *
   have hlo:lowSo 5 [fsB,none,some (Blk.row (lits c) 0),slB (lits L),liB t]:=⟨⟨⟨trivial,trivial⟩,trivial⟩,trivial,Za3 c,Zdo _ (Za3 L),⟨trivial,trivial,Za0 _,trivial,Za0 _,trivial⟩,trivial⟩
   have hix:=Zrs [fsB,none,some (Blk.row (lits c) 0),slB (lits L),liB t] (b:=2) (.fn 67 [] [.ptr 0 0, .ptr 4 0]) (fun x=>sameL t x) c rfl (by omega) hlo (by simp [go_sem]) (fun j hj=>Zzz none _ _ t c[j] hlo hts (hcs _ (List.getElem_mem hj)))
   unfold fsB liB at hix
   unfold fsB
   simp only [go_sem,hlt,Zaf,hg1,Zaw]
   refine ⟨by omega,?_⟩
   refine hix.mono ?_
   rintro r σ' ⟨rfl,rfl⟩
   rcases Zfy (fun x=>sameL t x) c 0 (by omega) with ⟨q1,_⟩ | ⟨k,q1,q2,_⟩
   ·rw [q1] at hpre ⊢
    rw [if_pos (by omega)] at hpre
    refine EvK.go 1000 ?_
    simp only [go_sem,Int.reduceNeg,Int.reduceLT]
    have h2:getS [some (Blk.var [.fn 38 [] []]),none,some (Blk.row (lits c) 0),slB (lits L),some (Blk.var [.bool t.neg, .int .i64 t.l.head, .ps 2 (t.l.args.map Tm.toA), .int .i64 t.r.head, .ps 2 (t.r.args.map Tm.toA)]),some (Blk.row [.agg [.bool t.neg, .int .i64 t.l.head, .ps 2 (t.l.args.map Tm.toA), .int .i64 t.r.head, .ps 2 (t.r.args.map Tm.toA)]] 0)] 3=slB (lits L):=rfl
    have hta:lits [t]=[.agg [.bool t.neg, .int .i64 t.l.head, .ps 2 (t.l.args.map Tm.toA), .int .i64 t.r.head, .ps 2 (t.r.args.map Tm.toA)]]:=rfl
    have ho1:=of_eq_true (Yjw [t])
    rw [hta] at ho1
    simp only [go_sem,Ze3 h2,ho1,Zaf,hw]
    refine ⟨by omega,⟨(i+1,L++[t],c),by simp only;omega,by rw [← hpre];simp,by simp only [List.length_append,List.length_cons,List.length_nil];omega,hcl,hcs⟩,[(3,6),(6,3)],Zb0 rfl ?_,by simp only;omega⟩
    have lw:lowL 0 (lits (L++[t])):=Za3 _
    have hla:lits (L++[t])=lits L++[.agg [.bool t.neg, .int .i64 t.l.head, .ps 2 (t.l.args.map Tm.toA), .int .i64 t.r.head, .ps 2 (t.r.args.map Tm.toA)]]:=by rw [← hta];simp [lits]
    dsimp only
    rw [hla] at lw ⊢
    rw [Zh0,Zh2]
    simp only [go_sem,Za3,Za2 (Za3 _),Za2 lw,Zac (Nat.zero_le 4) lw,Zaf]
   ·have hk0:(0:Int)+k=k:=by omega
    rw [q2,hk0] at hpre ⊢
    rw [if_neg (by omega),Int.toNat_natCast] at hpre
    have hnk:¬ (k:Int)<0:=by omega
    have hwk:IntKind.i64.wrap ((k:Int)+1)=((k+1:Nat):Int):=by rw [Zab (by omega)];omega
    refine EvK.go 1000 ?_
    simp only [go_sem,hnk,hwk]
    refine VCall.at1R (f:=.fn 68 [] []) (args:=[.os 0 0 c.length 5, .int .i64 k, .int .i64 ((k+1:Nat):Int)]) (B:=.row (lits c) 0) 2 rfl (Za3 _) ⟨trivial,trivial⟩ ⟨Nat.zero_lt_one,trivial,trivial,trivial⟩ ((Zw3 c k q1 (by omega)).mono ?_)
    rintro r σ' ⟨rfl,rfl⟩
    refine ⟨Nat.zero_lt_one,_,rfl,Za3 _,?_⟩
    have hdl:(dropL c k).length=c.length - 1:=by simp only [dropL,List.length_append,List.length_take,List.length_drop];omega
    rw [show c.take k++c.drop (k+1)=dropL c k from rfl,← hdl]
    simp only [go_sem,List.set_cons_succ,List.set_cons_zero]
    refine EvK.go 1000 ?_
    simp only [go_sem,hw]
    refine ⟨⟨(i+1,L,dropL c k),by simp only;omega,hpre,by simp only;omega,by simp only;omega,fun x hx=>?_⟩,[],Zb0 rfl ?_,by simp only;omega⟩
    ·rcases List.mem_append.1 hx with hx | hx
     ·exact hcs x (List.mem_of_mem_take hx)
     ·exact hcs x (List.mem_of_mem_drop hx)
    simp only [go_sem,Za3,Za2 (Za3 _),Zka (Za3 L)]
  ·have hi':i=a.length:=by omega
   subst hi'
   rw [List.drop_length,restC,List.append_nil] at hpre
   unfold fsB
   simp only [go_sem,hlt]
   refine EvK.go 1000 ?_
   simp only [go_sem]
   rw [← hpre,Zej rfl rfl];trivial
def gtL (g:List Sy) (a b:Li):Bool:=decide ((cmpL g a b).2=0)&&decide ((cmpL g a b).1=1)
def gtV (g:List Sy):AVal:=.fn 39 [] [.pp [.ps 4 (syms g)]]
@[go_sem] theorem Zko {n:Nat} (g:List Sy):AVal.low n (gtV g)=True:=eq_true ⟨trivial,⟨⟨Za5 _,trivial⟩,trivial⟩⟩
@[go_sem] theorem Yu8 {π:Nat→Nat} (g:List Sy):ren π (gtV g)=gtV g:=Ziw (of_eq_true (Zko g))
def liOk (g:List Sy) (l:Li):Prop:=sizL l∧(l.check g=0→litOk g l)
theorem Zrh (g:List Sy) (hg:gOk g) (hgl:g.length<1000000) (a b:Li) (ha:liOk g a) (hb:liOk g b) :
  CallEq Tryz.prog 39 [a.toA,b.toA, .pp [.ps 4 (syms g)]] (.bool (gtL g a b)):=by
 refine CallEq.begin (rs:=[.tmp 5]) (m:=18) 1000 Tryz.func39 rfl rfl rfl (by decide) trivial ?_
 have h:=Zrz g hg hgl a b ha.1 hb.1 ha.2 hb.2
 unfold gtL
 generalize cmpL g a b=z at *
 simp only [go_sem,Zaw]
 refine VCall.isoT [] h (Za1 _ _ _) ⟨Za5 _,Zcp _,Zcp _,trivial⟩ ?_
 rw [Zah];simp only [ite_self]
 refine EvK.go 1000 ?_
 by_cases h1:z.2=0
 ·simp only [go_sem,h1,decide_true,Bool.true_and]
 ·simp only [go_sem,h1,decide_false,Bool.false_and]
theorem Yax (g:List Sy) (hg:gOk g) (hgl:g.length<1000000) (x y:Li) (hx:liOk g x) (hy:liOk g y) :
  VCall Tryz.prog (.fn 73 [] [.ptr 0 0, .ptr 1 0]) [x.toA] [some (.var [gtV g]),liB y] (fun r σ'=>r = .bool (gtL g x y)∧σ'=[some (.var [gtV g]),liB y]):=by
 unfold liB
 refine VCall.begin (rs:=[.tmp 4]) (m:=6) 1000 Tryz.func73 rfl rfl rfl rfl rfl ?_
 have h:=Zrh g hg hgl x y hx hy
 simp only [go_sem,Zaw,gtV]
 refine VCall.isoT [] h (Za1 _ _ _) ⟨Zcp _,Zcp _,⟨Za5 _,trivial⟩,trivial⟩ ?_
 simp only [flatR,flatA,flatC,if_true]
 refine EvK.go 1000 ?_
 simp only [go_sem]
 rw [Zax]
 exact ⟨[some (.var [gtV g]),liB y],by simp [liB,gtV,go_sem],by simp,⟨⟨of_eq_true (Zko g),trivial⟩,⟨trivial,trivial,Za0 _,trivial,Za0 _,trivial⟩,trivial⟩,trivial,rfl,rfl⟩
def overC (g:List Sy) (a:List Li):List Li→Bool
 | []=>decide (0<a.length)
 | y :: b=>if a.any (fun x=>gtL g x y)=true then overC g a b else false
theorem Ztz (g:List Sy) (hg:gOk g) (hgl:g.length<1000000) (a b:List Li) (ha:a.length<1000000) (hb:b.length<1000000) (hla:∀ x∈a,liOk g x) (hlb:∀ x∈b,liOk g x) :
  CallEq Tryz.prog 41 [.ps 5 (lits a), .ps 5 (lits b),gtV g] (.bool (overC g a b)):=by
 refine CallEq.begin (rs:=[.tmp 6]) (m:=20) 1000 Tryz.func41 rfl rfl rfl (by decide) trivial ?_
 have gc:(gtV g).cells=[gtV g]:=rfl
 have gi:(gtV g).isCell=true:=rfl
 simp only [go_sem,Zaf,gc,gi]
 refine EvK.loopI (ι:={i:Nat // i≤b.length∧overC g a (b.drop i)=overC g a b}) 1000 (fun q=>mkT 23 [(0, .ps 5 (lits a)),(5, .ptr 0 0),(6, .bool false),(9, .ps 5 (lits b)),(10, .int .i64 b.length),(11, .int .i64 q.1)])
  (fun _=>[some (.var [gtV g])]) (fun q=>b.length - q.1) ⟨0,by simp⟩ ?_ (fun _=>Nat.zero_le _) ?_
 ·simp only [go_sem,Za3]
 ·rintro ⟨i,hi,hpre⟩
  by_cases hlt:(i:Int)<b.length
  ·have hlt':i<b.length:=by omega
   have hw:IntKind.i64.wrap ((i:Int)+1)=((i+1:Nat):Int):=by rw [Zab (by omega)];omega
   have hg1:=Zc6 hlt'
   have hyo:=hlb _ (List.getElem_mem hlt')
   rw [List.drop_eq_getElem_cons hlt',overC] at hpre
   generalize b[i]=y at *
   have hlo:lowSo 2 [some (Blk.var [gtV g]),liB y]:=⟨⟨of_eq_true (Zko g),trivial⟩,⟨trivial,trivial,Za0 _,trivial,Za0 _,trivial⟩,trivial⟩
   have hc:=Zl7 [some (Blk.var [gtV g]),liB y] (.fn 73 [] [.ptr 0 0, .ptr 1 0]) (fun x=>gtL g x y) a (by omega) hlo (by simp [go_sem]) (fun j hj=>Yax g hg hgl a[j] y (hla _ (List.getElem_mem hj)) hyo)
   unfold liB at hc
   simp only [go_sem,hlt,Zaf,hg1,Zaw]
   refine ⟨by omega,?_⟩
   refine hc.mono ?_
   rintro r σ' ⟨rfl,rfl⟩
   cases h3:a.any (fun x=>gtL g x y)
   ·rw [h3] at hpre
    simp only [Bool.false_eq_true,if_false] at hpre
    refine EvK.go 1000 ?_
    simp only [go_sem]
    refine EvK.go 1000 ?_
    simp only [go_sem,← hpre]
   ·rw [h3,if_pos rfl] at hpre
    refine EvK.go 1000 ?_
    simp only [go_sem,hw]
    refine ⟨⟨i+1,by omega,hpre⟩,?_,by simp only;omega⟩
    simp only [go_sem,Za3]
  ·have hi':i=b.length:=by omega
   subst hi'
   rw [List.drop_length,overC] at hpre
   simp only [go_sem,hlt]
   refine EvK.go 1000 ?_
   simp only [go_sem,Zaf,← hpre]
   exact congrArg AVal.bool (decide_eq_decide.2 (by omega))
def cmpC (g:List Sy) (a b:List Li):Int×Int :=
 if clauseCheck g a≠0 then (0,clauseCheck g a) else if clauseCheck g b≠0 then (0,clauseCheck g b) else
 if (restC a b).length+(restC b a).length=0 then (0,0) else if overC g (restC a b) (restC b a)=true then (1,0) else if overC g (restC b a) (restC a b)=true then (-1,0) else (2,0)
theorem Zhp:∀ (a b:List Li) (t:Li),t∈restC a b→t∈a
 | [],_,t,h=>by rw [restC] at h;cases h
 | x :: a,b,t,h=>by
  rw [restC] at h
  split at h
  ·rcases List.mem_cons.1 h with rfl | h
   ·simp
   ·exact List.mem_cons_of_mem _ (Zhp a b t h)
  ·exact List.mem_cons_of_mem _ (Zhp a _ t h)
theorem Zh6:∀ (a b:List Li),(restC a b).length≤a.length
 | [],_=>by rw [restC];exact Nat.le_refl _
 | x :: a,b=>by
  rw [restC]
  split
  ·have:=Zh6 a b;simp only [List.length_cons];omega
  ·have:=Zh6 a (dropL b (idxF (fun y=>sameL x y) b 0).toNat);simp only [List.length_cons];omega
theorem Zs2 (g:List Sy) (hg:gOk g) (hgl:g.length<1000000) (a b:List Li) (ha0:a≠[]) (hb0:b≠[]) (ha:a.length<500000) (hb:b.length<500000) (hla:∀ x∈a,liOk g x) (hlb:∀ x∈b,liOk g x) :
  CallEq Tryz.prog 16 [.ps 4 (syms g), .ps 5 (lits a), .ps 5 (lits b)] (.tup [.int .i64 (cmpC g a b).1, .int .i64 (cmpC g a b).2]):=by
 refine CallEq.begin (rs:=[.tmp 6, .tmp 7]) (m:=46) 1000 Tryz.func16 rfl rfl rfl (by decide) ⟨trivial,trivial,trivial⟩ ?_
 have k1:=Zhr g a (fun i h=>by have:=(hla _ (List.getElem_mem h)).1;exact ⟨by have:=this.1;omega,by have:=this.2;omega⟩)
 have k2:=Zhr g b (fun i h=>by have:=(hlb _ (List.getElem_mem h)).1;exact ⟨by have:=this.1;omega,by have:=this.2;omega⟩)
 simp only [go_sem]
 refine VCall.isoT [] k1 (Za1 _ _ _) ⟨Za5 _,Za3 _,trivial⟩ ?_
 simp only [flatR,flatA,flatC,if_true]
 refine EvK.go 1000 ?_
 by_cases h1:clauseCheck g a=0
 ·simp only [go_sem,h1]
  refine VCall.isoT [] k2 (Za1 _ _ _) ⟨Za5 _,Za3 _,trivial⟩ ?_
  simp only [flatR,flatA,flatC,if_true]
  refine EvK.go 1000 ?_
  by_cases h2:clauseCheck g b=0
  ·have hr:cmpC g a b=if (restC a b).length+(restC b a).length=0 then (0,0) else if overC g (restC a b) (restC b a)=true then (1,0) else if overC g (restC b a) (restC a b)=true then (-1,0) else (2,0):=by
    unfold cmpC;rw [if_neg (by simp [h1]),if_neg (by simp [h2])]
   have sza:∀ t∈a,sizL t:=fun t ht=>(hla t ht).1
   have szb:∀ t∈b,sizL t:=fun t ht=>(hlb t ht).1
   have l1:=Zh6 a b
   have l2:=Zh6 b a
   have m1:∀ t∈restC a b,liOk g t:=fun t ht=>hla t (Zhp _ _ t ht)
   have m2:∀ t∈restC b a,liOk g t:=fun t ht=>hlb t (Zhp _ _ t ht)
   have o1:=Ztz g hg hgl (restC a b) (restC b a) (by omega) (by omega) m1 m2
   have o2:=Ztz g hg hgl (restC b a) (restC a b) (by omega) (by omega) m2 m1
   rw [hr]
   simp only [go_sem,h2]
   refine VCall.isoT [] (Ztl a b hb0 (by omega) (by omega) sza szb) (Za1 _ _ _) ⟨Za3 _,Za3 _,⟨trivial,trivial⟩,trivial⟩ ?_
   rw [Zah];simp only [ite_self]
   refine EvK.go 1000 ?_
   simp only [go_sem]
   refine VCall.isoT [] (Ztl b a ha0 (by omega) (by omega) szb sza) (Za1 _ _ _) ⟨Za3 _,Za3 _,⟨trivial,trivial⟩,trivial⟩ ?_
   rw [Zah];simp only [ite_self]
   generalize restC a b=x at *
   generalize restC b a=y at *
   have hw1:IntKind.i64.wrap ((x.length:Int)+y.length)=((x.length+y.length:Nat):Int):=by rw [Zab (by omega)];omega
   refine EvK.go 1000 ?_
   by_cases h3:x.length+y.length=0
   ·rw [if_pos h3]
    have h4:((x.length+y.length:Nat):Int)=0:=by omega
    simp only [go_sem,Zaf,hw1,h4]
   ·rw [if_neg h3]
    have h4:¬ ((x.length+y.length:Nat):Int)=0:=by omega
    simp only [go_sem,Zaf,hw1,h4]
    refine VCall.isoE (b:=0) (cs:=[.ps 4 (syms g)]) [] rfl o1 (Za1 _ _ _) ⟨Za3 _,Za3 _,of_eq_true (Zko g),trivial⟩ rfl ?_
    refine EvK.go 1000 ?_
    cases h5:overC g x y
    ·simp only [go_sem,h5]
     refine VCall.isoE (b:=0) (cs:=[.ps 4 (syms g)]) [] rfl o2 (Za1 _ _ _) ⟨Za3 _,Za3 _,of_eq_true (Zko g),trivial⟩ rfl ?_
     refine EvK.go 1000 ?_
     cases h6:overC g y x
     ·simp only [go_sem,h6]
     ·simp only [go_sem,h6]
    ·simp only [go_sem,h5]
  ·have hr:cmpC g a b=(0,clauseCheck g b):=by unfold cmpC;rw [if_neg (by simp [h1]),if_pos h2]
   rw [hr]
   simp only [go_sem,h2]
 ·have hr:cmpC g a b=(0,clauseCheck g a):=by unfold cmpC;rw [if_pos h1]
  rw [hr]
  simp only [go_sem,h1]
theorem Zpl {P:Program} {lo:Ctx} {Q:AExit→St→Prop} {k:List KI} {ops:Array Oper} {l:List Oper} {fs:List Fp} {tm:List AVal} {σ m:Store} {d:Option Tmp} {g:FuncId} {first captured args args':List AVal} {r:AVal} {wr:List Nat} {b:Nat} {cs:List AVal} (hb:getS m b=some (.var cs)) (hc:CallEq P g args' r)
  (hp:pTL (among []) (m.set b none) args' ((first++args++captured).map (exA b cs))) (hl:lowL 0 args') (hfl:flatR r=true)
  (h:drawK P lo Q k ops l fs (put tm d r) (mergeW wr 0 m σ)):drawC P lo Q k ops wr d l fs tm σ m (.fn g first captured) args :=
 ⟨r,m,VCall.isoE [] hb hc hp hl hfl ⟨rfl,rfl⟩,Zg6 wr m 0,h⟩
def truthH (g:List Sy) (t:Tm):Bool:=decide (0≤t.head)&&((g[t.head.toNat]?).map Sy.truth).getD false
theorem Zoc (g:List Sy) (t:Tm) (ht:t.head<g.length):CallEq Tryz.prog 84 [t.toA, .pp [.ps 4 (syms g)]] (.bool (truthH g t)):=by
 refine CallEq.begin (rs:=[.tmp 3]) (m:=13) 1000 Tryz.func84 rfl rfl rfl (by decide) trivial ?_
 unfold truthH
 by_cases h : 0≤t.head
 ·have hk:t.head.toNat<g.length:=by omega
  have hgs:=Zb6 hk
  have hh:((g[t.head.toNat]?).map Sy.truth).getD false=(g[t.head.toNat]).truth:=by simp [hk]
  simp only [go_sem,Za8,h,Zal,hgs,Zaz,decide_true,Bool.true_and,hh]
  exact ht
 ·simp only [go_sem,Za8,h,decide_false,Bool.false_and]
def turnF (g:List Sy) (u:Un) (t:Tm) (m:List Bd×Bool×Int) (s:Tm×Int) (k q:Int×Int):Tm×Bool :=
 if truthH g u.l≠truthH g t then (t,false) else if m.2.2≠0∨m.2.1=false then (t,false) else if s.2≠0 then (t,false) else
 if k.2≠0∨k.1≠1 then (t,false) else (s.1,decide (q.2=0)&&decide (q.1 = -1))
theorem Ycy (g:List Sy) (u:Un) (t:Tm) (c:List Li) (m:List Bd×Bool×Int) (s:Tm×Int) (k q:Int×Int) (hl:u.l.head<g.length) (ht:t.head<g.length)
  (hM:CallEq Tryz.prog 85 [u.l.toA,t.toA] (.tup [.ps 3 (bds m.1), .bool m.2.1, .int .i64 m.2.2]))
  (hA:m.2.2=0→m.2.1=true→CallEq Tryz.prog 86 [.ps 3 (bds m.1),u.r.toA] (.tup [s.1.toA, .int .i64 s.2]))
  (hK:m.2.2=0→m.2.1=true→s.2=0→CallEq Tryz.prog 87 [.ps 4 (syms g),t.toA,s.1.toA] (.tup [.int .i64 k.1, .int .i64 k.2]))
  (hC:m.2.2=0→m.2.1=true→s.2=0→k.2=0→k.1=1→CallEq Tryz.prog 16 [.ps 4 (syms g), .ps 5 (lits [⟨false,t,s.1⟩]), .ps 5 (lits c)] (.tup [.int .i64 q.1, .int .i64 q.2])) :
  CallEq Tryz.prog 54 [.ps 4 (syms g),u.toA,t.toA, .ps 5 (lits c)] (.tup [(turnF g u t m s k q).1.toA, .bool (turnF g u t m s k q).2]):=by
 refine CallEq.begin (rs:=[.cell 8 48, .tmp 9]) (m:=80) 1000 Tryz.func54 rfl rfl rfl (by decide) ⟨Za7 _,trivial,trivial⟩ ?_
 have t1:=Zoc g u.l hl
 have t2:=Zoc g t ht
 have e1:exA 0 [.ps 4 (syms g)] (.ptr 0 0) = .pp [.ps 4 (syms g)]:=by simp [exA,exP]
 simp only [go_sem,Zfx,Za8]
 refine EvK.draw [] 4 4 mixed rfl rfl (by decide) ?_
 simp only [go_sem,padS]
 refine Zpl (b:=0) (cs:=[.ps 4 (syms g)]) rfl t1 (by simp only [Za6];exact Za1 _ _ _) ⟨Za7 _,⟨Za5 _,trivial⟩,trivial⟩ rfl ?_
 simp only [go_sem]
 refine Zpl (b:=0) (cs:=[.ps 4 (syms g)]) rfl t2 (by simp only [Za6];exact Za1 _ _ _) ⟨Za7 _,⟨Za5 _,trivial⟩,trivial⟩ rfl ?_
 obtain ⟨z,hz⟩:∃ z,turnF g u t m s k q=z:=⟨_,rfl⟩
 rw [hz]
 unfold turnF at hz
 generalize truthH g u.l=p1 at *
 generalize truthH g t=p2 at *
 by_cases hp:p1=p2
 ·subst hp
  rw [if_neg (by simp)] at hz
  have hpp:(p1==p1)=true:=by simp
  simp only [go_sem,hpp]
  refine EvK.go 1000 ?_
  simp only [go_sem]
  refine VCall.isoT [] hM (by simp only [Za6];exact Za1 _ _ _) ⟨Za7 _,Za7 _,trivial⟩ ?_
  rw [Zah];simp only [ite_self]
  refine EvK.go 1000 ?_
  by_cases c1:m.2.2=0
  ·cases c2:m.2.1 with
   | false =>
    rw [if_pos (.inr c2)] at hz
    subst hz
    simp only [go_sem,c1]
    rw [Za6]
    exact Za1 _ _ _
   | true =>
    rw [if_neg (by simp [c1,c2])] at hz
    simp only [go_sem,c1]
    refine VCall.isoT [] (hA c1 c2) (by simp only [Za6];exact Za1 _ _ _) ⟨of_eq_true (Zhw _),Za7 _,trivial⟩ ?_
    rw [Zah];simp only [ite_self]
    refine EvK.go 1000 ?_
    by_cases c3:s.2=0
    ·rw [if_neg (by simp [c3])] at hz
     simp only [go_sem,c3,Za8]
     refine VCall.isoT [] (hK c1 c2 c3) (by simp only [Za6];exact Za1 _ _ _) ⟨Za5 _,Za7 _,Za7 _,trivial⟩ ?_
     rw [Zah];simp only [ite_self]
     refine EvK.go 1000 ?_
     by_cases c4:k.2=0
     ·by_cases c5:k.1=1
      ·rw [if_neg (by simp [c4,c5])] at hz
       subst hz
       simp only [go_sem,c4,c5]
       refine VCall.isoT [5] (hC c1 c2 c3 c4 c5) ?_ ⟨Za5 _,Za3 _,Za3 _,trivial⟩ ?_
       ·simp only [go_sem,lits,List.map_cons,List.map_nil]
        exact Zdx _ _ (.agg _)
       rw [show flatR (AVal.tup [.int .i64 q.1, .int .i64 q.2])=true from rfl]
       simp only [if_true]
       refine EvK.go 1000 ?_
       by_cases c6:q.2=0
       ·simp only [go_sem,c6,decide_true,Bool.true_and,Za8]
        rw [Za6]
        exact Za1 _ _ _
       ·simp only [go_sem,c6,decide_false,Bool.false_and,Za8]
        rw [Za6]
        exact Za1 _ _ _
      ·rw [if_pos (.inr c5)] at hz
       subst hz
       simp only [go_sem,c4,c5]
       rw [Za6]
       exact Za1 _ _ _
     ·rw [if_pos (.inl c4)] at hz
      subst hz
      simp only [go_sem,c4]
      rw [Za6]
      exact Za1 _ _ _
    ·rw [if_pos c3] at hz
     subst hz
     simp only [go_sem,c3,Za8]
     rw [Za6]
     exact Za1 _ _ _
  ·rw [if_pos (.inl c1)] at hz
   subst hz
   simp only [go_sem,c1]
   rw [Za6]
   exact Za1 _ _ _
 ·rw [if_pos hp] at hz
  subst hz
  have hpp:(p1==p2)=false:=by simpa using hp
  simp only [go_sem,hpp]
  refine EvK.go 1000 ?_
  simp only [go_sem,Za6]
end Go.Proofs
namespace Go.Proofs
open Go Go.Abs
theorem Ygp {g:List Sy} {h:Int} (h0 : 0≤h) (h1:h<g.length):arOf g h=(symAt g h).arity:=by
 have hk:h.toNat<g.length:=by omega
 simp [arOf,symAt,List.getD,hk]
mutual
theorem Zpk (g:List Sy):∀ t:Tm,t.good=true→t.known g=true→t.inG g∧t.arG g
 | .mk h ts,hg,hk=>by
  rw [Tm.good] at hg
  rw [Tm.known] at hk
  simp only [Bool.and_eq_true,Bool.not_eq_true',Bool.or_eq_false_iff,Bool.or_eq_true,decide_eq_true_eq,decide_eq_false_iff_not,Bool.and_eq_false_iff] at hg hk
  rw [Tm.inG,Tm.arG]
  by_cases hn:h<0
  ·have hts:ts=[]:=by
    have:=hg.1.1.1.1
    rcases this with h1 | h1
    ·exact absurd hn h1
    ·exact List.eq_nil_of_length_eq_zero (by omega)
   subst hts
   exact ⟨⟨by omega,trivial⟩,fun h0=>by omega,trivial⟩
  ·rcases hk with hk | ⟨⟨k1,k2⟩,k3⟩
   ·exact absurd hk hn
   ·obtain ⟨a1,a2⟩:=Zlm g ts hg.2 k3
    exact ⟨⟨by omega,a1⟩,fun h0=>by rw [Ygp h0 (by omega)];exact k2,a2⟩
theorem Zlm (g:List Sy):∀ ts:List Tm,Tm.goods ts=true→Tm.knowns g ts=true→Tm.inGs g ts∧Tm.arGs g ts
 | [],_,_=>⟨trivial,trivial⟩
 | t :: ts,hg,hk=>by
  rw [Tm.goods] at hg
  rw [Tm.knowns] at hk
  simp only [Bool.and_eq_true] at hg hk
  obtain ⟨a1,a2⟩:=Zpk g t hg.1 hk.1
  obtain ⟨b1,b2⟩:=Zlm g ts hg.2 hk.2
  exact ⟨⟨a1,b1⟩,a2,b2⟩
end
theorem Zbf {t:Tm} (h:t.check=0):t.size≤400∧t.depth≤40∧t.good=true:=by
 unfold Tm.check at h
 by_cases h1 : 400<t.size
 ·rw [if_pos h1] at h;cases h
 ·rw [if_neg h1] at h
  by_cases h2 : 40<t.depth
  ·rw [if_pos h2] at h;cases h
  ·rw [if_neg h2] at h
   cases h3:t.good with
   | false=>rw [h3] at h;simp at h
   | true=>exact ⟨by omega,by omega,rfl⟩
theorem Zhl {g:List Sy} {t:Tm} (h:t.term g=0) (hf:t.fit):tmOk g t:=by
 obtain ⟨h1,h2,_⟩:=Zb8 h
 obtain ⟨c1,_,c3⟩:=Zbf h1
 obtain ⟨a1,a2⟩:=Zpk g t c3 h2
 exact ⟨by omega,a1,a2,hf⟩
theorem Yhj (bs:List Bd) (N:Nat) (hN : 1≤N) (hb:∀ b∈bs,b.t.size≤N):∀ t:Tm,t.head<0→t.args=[]→(t.sub bs).size≤N
 | .mk h ts,h0,h1=>by
  rw [Yap h0,subOf]
  cases hf:bs.find? (fun b=>b.v == -1 - (Tm.mk h ts).head) with
  | some b=>exact hb b (List.mem_of_find?_eq_some hf)
  | none =>
   simp only [Option.map_none,Option.getD_none]
   rw [Zay,h1];simp [Tm.sizes];omega
mutual
theorem Zkz (bs:List Bd) (N:Nat) (hN : 1≤N) (hb:∀ b∈bs,b.t.size≤N):∀ t:Tm,t.good=true→(t.sub bs).size≤t.size*N
 | .mk h ts,hg=>by
  rw [Tm.good] at hg
  simp only [Bool.and_eq_true,Bool.not_eq_true',Bool.or_eq_false_iff,decide_eq_false_iff_not,Bool.and_eq_false_iff] at hg
  by_cases hn:h<0
  ·have hts:ts=[]:=by
    rcases hg.1.1.1.1 with h1 | h1
    ·exact absurd hn h1
    ·exact List.eq_nil_of_length_eq_zero (by omega)
   have:=Yhj bs N hN hb (.mk h ts) hn hts
   have hs:(Tm.mk h ts).size=1:=by rw [Zay];simp [Tm.args,hts,Tm.sizes]
   rw [hs];omega
  ·rw [Tm.sub,if_neg hn,Tm.size,Tm.size,Nat.add_mul]
   have:=Zln bs N hN hb ts hg.2
   omega
theorem Zln (bs:List Bd) (N:Nat) (hN : 1≤N) (hb:∀ b∈bs,b.t.size≤N):∀ ts:List Tm,Tm.goods ts=true→Tm.sizes (Tm.subL bs ts)≤Tm.sizes ts*N
 | [],_=>by simp [Tm.subL,Tm.sizes]
 | t :: ts,hg=>by
  rw [Tm.goods] at hg
  simp only [Bool.and_eq_true] at hg
  rw [Tm.subL,Tm.sizes,Tm.sizes,Nat.add_mul]
  have a1:=Zkz bs N hN hb t hg.1
  have a2:=Zln bs N hN hb ts hg.2
  omega
end
theorem Yjz {g:List Sy} (h:sigOk g=true):gOk g∧g.length≤256:=by
 unfold sigOk at h
 simp only [Bool.and_eq_true,Bool.not_eq_true',Bool.or_eq_false_iff,decide_eq_false_iff_not,List.all_eq_true,List.mem_range] at h
 obtain ⟨⟨⟨h1,h2⟩,h3⟩,_⟩:=h
 refine ⟨fun s hs=>?_,by omega⟩
 obtain ⟨i,hi,rfl⟩:=List.mem_iff_getElem.1 hs
 have h4:=h3 i hi
 unfold okAt at h4
 rw [Zd5 hi] at h4
 simp only [Bool.and_eq_true,Sy.right,Bool.not_eq_true',Bool.or_eq_false_iff,decide_eq_false_iff_not] at h4
 omega
theorem Zrr {g:List Sy} {t:Tm} (h:t.term g=0):sigOk g=true:=by
 unfold Tm.term at h
 cases hs:sigOk g with
 | false=>rw [hs] at h;simp at h
 | true=>rfl
theorem Zlu {g:List Sy} {l:Li} (hs:sizL l) (hf:l.l.fit∧l.r.fit):liOk g l:=⟨hs,fun h=>⟨Zhl (Zcs h).1 hf.1,Zhl (Zcs h).2 hf.2⟩⟩
theorem Ydx {t:Tm} {i:Nat} (h:i<t.args.length) (p:List Int):t.atP ((i:Int) :: p)=(t.args[i]).atP p:=by
 rw [Tm.atP,if_neg (by omega)]
 simp [h]
mutual
theorem Zis:∀ (t:Tm) (q p:List Int),p∈t.spots q→∃ p',p=q++p'∧p'.length<t.size∧∃ v,t.atP p'=some v∧v.size≤t.size
 | .mk h ts,q,p,hp=>by
  rw [Tm.spots] at hp
  rcases List.mem_cons.1 hp with rfl | hp
  ·exact ⟨[],by simp,by rw [Tm.size];simp only [List.length_nil];omega,_,rfl,Nat.le_refl _⟩
  ·obtain ⟨j,hj,p',rfl,h1,v,h2,h3⟩:=Zqg ts q 0 p hp
   have h4:=Zbl (List.getElem_mem hj)
   refine ⟨((j:Int)) :: p',by simp,?_,v,?_,?_⟩
   ·rw [Tm.size];simp only [List.length_cons];omega
   ·rw [Ydx (t:=.mk h ts) hj];exact h2
   ·rw [Tm.size];omega
theorem Zqg:∀ (ts:List Tm) (q:List Int) (i:Nat) (p:List Int),p∈Tm.spotsL ts q i→∃ (j:Nat) (hj:j<ts.length) (p':List Int),p=q++(((i+j:Nat):Int) :: p')∧p'.length<(ts[j]).size∧∃ v,(ts[j]).atP p'=some v∧v.size≤(ts[j]).size
 | [],_,_,p,hp=>by rw [Tm.spotsL] at hp;cases hp
 | t :: ts,q,i,p,hp=>by
  rw [Tm.spotsL] at hp
  rcases List.mem_append.1 hp with hp | hp
  ·obtain ⟨p',rfl,h1,v,h2,h3⟩:=Zis t _ p hp
   exact ⟨0,by simp,p',by simp,h1,v,h2,h3⟩
  ·obtain ⟨j,hj,p',rfl,h1,v,h2,h3⟩:=Zqg ts q (i+1) p hp
   exact ⟨j+1,by simpa using hj,p',by rw [show i+1+j=i+(j+1) by omega],by simpa using h1,v,by simpa using h2,by simpa using h3⟩
end
end Go.Proofs
namespace Go.Proofs
open Go Go.Abs
attribute [local go_sem] Nat.reduceAdd Nat.reduceSub Nat.reduceMul Nat.reduceLeDiff Nat.reduceEqDiff Nat.reduceBEq Nat.reduceLT Nat.le_refl Int.natCast_zero Nat.sub_zero List.length_map Int.toNat_natCast Int.natCast_one Int.reduceEq Int.reduceLT Int.reduceLE Int.reduceNe Int.sub_zero Int.zero_add Int.toNat_one
def sideSpots (i:Nat) (rt:Bool) (t:Tm):List Spo:=(t.spots []).map fun p=>⟨(i:Int),rt,p,(t.atP p).getD zeroT⟩
def litSpots (i:Nat) (l:Li):List Spo:=sideSpots i false l.l++sideSpots i true l.r
def spotsF:List Li→Nat→List Spo
 | [],_=>[]
 | l :: c,i=>litSpots i l++spotsF c (i+1)
theorem Yb3 (c:List Li) (σ:Store) (hs:lowSo σ.length σ):VCall Tryz.prog (.fn 53 [] []) [.ps 5 (lits c)] σ
  (fun r σ'=>r = .fn 81 [] [.ptr σ.length 0]∧σ' = σ++[some (.var [.ps 5 (lits c)])]):=by
 refine VCall.begin (rs:=[.tmp 2]) (m:=3) 1000 Tryz.func53 rfl rfl rfl rfl rfl ?_
 simp only [go_sem]
 rw [Zet,Zax]
 exact ⟨_,Za9 _,by simp,Zas (Zam (by simp) hs) ⟨⟨Za3 _,trivial⟩,trivial⟩,by simp [go_sem],rfl,rfl⟩
def restS (i:Nat) (l:Li) (j:Nat) (R:List Spo):List Spo:=if j=0 then sideSpots i false l.l++(sideSpots i true l.r++R) else if j=1 then sideSpots i true l.r++R else R
theorem awL9 {N:Nat} {l:List AVal} (h:lowL N l):awayL 9 9 l:=fun ρ hρ=>Zbj ρ N (fun b _=>hρ b (by omega)) l h
theorem awS9 {N:Nat} {τ:Store} (h:lowSo N τ):awayS 9 9 τ:=fun ρ hρ x hx=>by
 obtain ⟨i,hi⟩:=List.mem_iff_getElem?.1 hx
 exact Zfd ρ N (fun b _=>hρ b (by omega)) x (Zat h i x hi)
theorem Zp8 (c:List Li) (hcl:c.length<1000000) (hc:∀ l∈c,l.l.size≤400∧l.r.size≤400) (b0 b1 b2 b3 b4 b5 b6 b8:Option Blk) (E:Store) (k0:Nat) (hEl:E.length=9) (hEs:lowSo 9 E)
  (hs:lowSo 9 [b0,b1,b2,b3,b4,b5,b6,some (.var [.ps 5 (lits c)]),b8])
  (hy:∀ k (h:k<(spotsF c 0).length),k<k0→VCall Tryz.prog (.yld 8) [(spotsF c 0)[k].toA] [b0,b1,b2,b3,b4,b5,b6,some (.var [.ps 5 (lits c)]),b8] (fun r σ'=>r = .bool true∧σ'=[b0,b1,b2,b3,b4,b5,b6,some (.var [.ps 5 (lits c)]),b8]))
  (hE:∀ h:k0<(spotsF c 0).length,VCall Tryz.prog (.yld 8) [(spotsF c 0)[k0].toA] [b0,b1,b2,b3,b4,b5,b6,some (.var [.ps 5 (lits c)]),b8] (fun r σ'=>r = .bool false∧σ'=E)) :
  VCall Tryz.prog (.fn 81 [] [.ptr 7 0]) [.yld 8] [b0,b1,b2,b3,b4,b5,b6,some (.var [.ps 5 (lits c)]),b8] (fun _ σ'=>σ'=if k0<(spotsF c 0).length then E else [b0,b1,b2,b3,b4,b5,b6,some (.var [.ps 5 (lits c)]),b8]):=by
 refine VCall.begin (rs:=[]) (m:=52) 1000 Tryz.func81 rfl rfl rfl rfl rfl ?_
 obtain ⟨SP,hSP⟩:∃ SP,spotsF c 0=SP:=⟨_,rfl⟩
 simp only [hSP] at hy hE ⊢
 simp only [go_sem,Zaf]
 refine EvK.loopI (ι:={q:Nat×Nat // q.1≤c.length∧q.2≤k0∧SP.drop q.2=spotsF (c.drop q.1) q.1}) 1000
  (fun q=>mkT 54 [(0, .yld 8),(11, .ps 5 (lits c)),(12, .int .i64 c.length),(13, .int .i64 q.1.1)]) (fun _=>[b0,b1,b2,b3,b4,b5,b6,some (.var [.ps 5 (lits c)]),b8]) (fun q=>c.length - q.1.1) ⟨(0,0),by simp [hSP]⟩ ?_ (fun _=>Nat.le_refl _) ?_
 ·simp only [go_sem,Za3]
  exact hs
 ·rintro ⟨⟨i,k⟩,hi,hk,hpre⟩
  simp only at hi hk hpre
  by_cases hlt:(i:Int)<c.length
  ·have hlt':i<c.length:=by omega
   have hw:IntKind.i64.wrap ((i:Int)+1)=((i+1:Nat):Int):=by rw [Zab (by omega)];omega
   have hg1:=Zc6 hlt'
   have hls:=hc _ (List.getElem_mem hlt')
   rw [List.drop_eq_getElem_cons hlt',spotsF,litSpots,List.append_assoc] at hpre
   generalize c[i]=l at *
   simp only [go_sem,hlt,Zaf,hg1,Zaw]
   refine ⟨by omega,?_⟩
   obtain ⟨R,hR⟩:∃ R,spotsF (c.drop (i+1)) (i+1)=R:=⟨_,rfl⟩
   rw [hR] at hpre
   have hc2:((2:Nat):Int)=2:=rfl
   refine EvK.loopI (ι:={q:Nat×Nat // q.1≤2∧q.2≤k0∧SP.drop q.2=restS i l q.1 R}) 1000
    (fun q=>mkT 54 [(0, .yld 8),(3, .int .i64 i),(11, .ps 5 (lits c)),(12, .int .i64 c.length),(13, .int .i64 i),(22, .os 10 0 2 2),(23, .int .i64 ((2:Nat):Int)),(24, .int .i64 q.1.1)])
    (fun _=>[b0,b1,b2,b3,b4,b5,b6,some (.var [.ps 5 (lits c)]),b8,none,some (.row [.agg [.int .i64 l.l.head, .ps 2 (l.l.args.map Tm.toA)], .agg [.int .i64 l.r.head, .ps 2 (l.r.args.map Tm.toA)]] 0)]) (fun q=>2 - q.1.1) ⟨(0,k),by simp only [restS,if_true];exact ⟨by omega,hk,hpre⟩⟩ ?_ (fun _=>by simp) ?_
   ·have hs2:=Zam (show 9≤11 by decide) hs
    simp only [go_sem,Za3,Za0]
    exact Zas hs2 ⟨trivial,⟨⟨trivial,Za0 _,trivial⟩,⟨trivial,Za0 _,trivial⟩,trivial⟩,trivial⟩
   ·rintro ⟨⟨j,k'⟩,hj,hk',hpre'⟩
    simp only at hj hk' hpre'
    have hmid:∀ (j:Nat) (rt:Bool) (t:Tm) (T:List Spo),True:=fun _ _ _ _=>trivial
    obtain rfl | rfl | rfl:j=0∨j=1∨j=2:=by omega
    ·simp only [restS,if_true] at hpre'
     have hall:=Yie l.l (by omega)
     simp only [go_sem,hc2,List.getD_cons_zero]
     refine VCall.isoT [] (hall) (by (try simp only [Za6]);exact Za1 _ _ _) (by simp [go_sem,Za7,Za0]) ?_;rw [Zah];simp only [ite_self];refine EvK.go 1000 ?_
     simp only [go_sem,Zi7,Zc8]
     refine EvK.loopI (ι:={q:Nat×Nat // q.1≤l.l.size∧q.2≤k0∧SP.drop q.2=(sideSpots i false l.l).drop q.1++(sideSpots i true l.r++R)}) 1000
      (fun q=>mkT 54 [(0, .yld 8),(3, .int .i64 i),(5, .int .i64 0),(6, .ptr 11 0),(11, .ps 5 (lits c)),(12, .int .i64 c.length),(13, .int .i64 i),(22, .os 10 0 2 2),(23, .int .i64 ((2:Nat):Int)),(24, .int .i64 0),(30, .ps 1 (pps (l.l.spots []))),(31, .int .i64 l.l.size),(32, .int .i64 q.1.1)])
      (fun _=>[b0,b1,b2,b3,b4,b5,b6,some (.var [.ps 5 (lits c)]),b8,none,some (.row [.agg [.int .i64 l.l.head, .ps 2 (l.l.args.map Tm.toA)], .agg [.int .i64 l.r.head, .ps 2 (l.r.args.map Tm.toA)]] 0),some (.var [.int .i64 l.l.head, .ps 2 (l.l.args.map Tm.toA)])]) (fun q=>l.l.size - q.1.1) ⟨(0,k'),by simp only [List.drop_zero];exact ⟨Nat.zero_le _,hk',hpre'⟩⟩ ?_ (fun _=>by simp) ?_
     ·have hs3:=Zam (show 9≤12 by decide) hs
      simp only [go_sem,Za3,Za0,Zcu,hc2]
      exact Zas hs3 ⟨trivial,⟨⟨trivial,Za0 _,trivial⟩,⟨trivial,Za0 _,trivial⟩,trivial⟩,⟨trivial,Za0 _,trivial⟩,trivial⟩
     ·rintro ⟨⟨n,k2⟩,hn,hk2,hpre2⟩
      simp only at hn hk2 hpre2
      by_cases hlt2:(n:Int)<l.l.size
      ·have hlp:n<(l.l.spots []).length:=by rw [Zc8];omega
       have hw2:IntKind.i64.wrap ((n:Int)+1)=((n+1:Nat):Int):=by rw [Zab (by omega)];omega
       have hgp:(pps (l.l.spots [])).getD n .undef = .ps 1 (ints (l.l.spots [])[n]):=Zaq hlp
       obtain ⟨p',hp1,hp2,v,hv,hvs⟩:=Zis l.l [] _ (List.getElem_mem hlp)
       have hsn:n<(sideSpots i false l.l).length:=by simp only [sideSpots,List.length_map];exact hlp
       have hsg:(sideSpots i false l.l)[n]=⟨(i:Int),false,(l.l.spots [])[n],(l.l.atP (l.l.spots [])[n]).getD zeroT⟩:=by simp [sideSpots]
       rw [List.nil_append] at hp1
       rw [List.drop_eq_getElem_cons hsn,hsg,hp1,hv,Option.getD_some] at hpre2
       rw [hp1] at hgp
       have hat:=Yb7 l.l p' (by omega) (by omega)
       rw [hv,Option.getD_some] at hat
       simp only [go_sem,hlt2,Zi7,Zc8,hgp,Nat.zero_le]
       refine ⟨by omega,?_⟩
       refine VCall.isoT [] (hat) (by (try simp only [Za6]);exact Za1 _ _ _) (by simp [go_sem,Za7,Za0,Za4]) ?_;rw [Zah];simp only [ite_self];refine EvK.go 1000 ?_
       simp only [go_sem,Za8,Int.reduceEq]
       have hkS:k2<SP.length:=by
        have:=congrArg List.length hpre2
        simp only [List.length_drop,List.cons_append,List.length_cons] at this;omega
       rw [List.drop_eq_getElem_cons hkS,List.cons_append] at hpre2
       obtain ⟨e1,e2⟩:=List.cons.inj hpre2
       have hτ:lowSo 13 [none,some (Blk.row [.agg [.int .i64 l.l.head, .ps 2 (l.l.args.map Tm.toA)], .agg [.int .i64 l.r.head, .ps 2 (l.r.args.map Tm.toA)]] 0),some (Blk.var [.int .i64 l.l.head, .ps 2 (l.l.args.map Tm.toA)]),some (Blk.var [.int .i64 v.head, .ps 2 (v.args.map Tm.toA)])] :=
        ⟨trivial,⟨⟨trivial,Za0 _,trivial⟩,⟨trivial,Za0 _,trivial⟩,trivial⟩,⟨trivial,Za0 _,trivial⟩,⟨trivial,Za0 _,trivial⟩,trivial⟩
       by_cases hkk:k2<k0
       ·have hyk:=hy k2 hkS hkk
        rw [e1] at hyk
        refine EvK.callS (σ:=[b0,b1,b2,b3,b4,b5,b6,some (.var [.ps 5 (lits c)]),b8]) (τ:=[none,some (Blk.row [.agg [.int .i64 l.l.head, .ps 2 (l.l.args.map Tm.toA)], .agg [.int .i64 l.r.head, .ps 2 (l.r.args.map Tm.toA)]] 0),some (Blk.var [.int .i64 l.l.head, .ps 2 (l.l.args.map Tm.toA)]),some (Blk.var [.int .i64 v.head, .ps 2 (v.args.map Tm.toA)])]) (.bool true) trivial (Nat.le_refl 9) ?_ ?_ hs (awL9 (N:=13) ?_) (awS9 hτ) ?_ hτ ?_
        ·exact Nat.lt_succ_self 8
        ·exact ⟨⟨trivial,trivial,Za4 _,trivial,Za0 _,trivial⟩,trivial⟩
        ·simp [go_sem,Za3,Za0,Za4,Za7,Zcu]
        ·simp [go_sem,Za3,Za0,Za4,Za7,Zcu]
        refine hyk.mono ?_
        rintro r σ' ⟨rfl,rfl⟩
        refine ⟨rfl,Nat.le_refl _,hs,fun b=>b,[b0,b1,b2,b3,b4,b5,b6,some (.var [.ps 5 (lits c)]),b8],rfl,fun _ _=>rfl,fun _ _ _ _ e=>e,?_,hs,?_⟩
        ·have:=Zco (π:=fun b=>b) (B:=[b0,b1,b2,b3,b4,b5,b6,some (.var [.ps 5 (lits c)]),b8]) (own:=[]) (τ:=[]) hs (fun _ _=>rfl) trivial
         simpa using this
        ·refine EvK.go 1000 ?_
         simp only [go_sem]
         refine ⟨⟨(n+1,k2+1),by simp only;omega,by simp only;omega,by simp only;exact e2⟩,⟨by rw [hw2],Za3 _,Zas (Zam (show 9≤12 by decide) hs) ⟨trivial,⟨⟨trivial,Za0 _,trivial⟩,⟨trivial,Za0 _,trivial⟩,trivial⟩,⟨trivial,Za0 _,trivial⟩,trivial⟩⟩,by simp only;omega⟩
       ·have hke:k2=k0:=by omega
        subst hke
        have hyk:=hE hkS
        rw [e1] at hyk
        refine EvK.callS (σ:=[b0,b1,b2,b3,b4,b5,b6,some (.var [.ps 5 (lits c)]),b8]) (τ:=[none,some (Blk.row [.agg [.int .i64 l.l.head, .ps 2 (l.l.args.map Tm.toA)], .agg [.int .i64 l.r.head, .ps 2 (l.r.args.map Tm.toA)]] 0),some (Blk.var [.int .i64 l.l.head, .ps 2 (l.l.args.map Tm.toA)]),some (Blk.var [.int .i64 v.head, .ps 2 (v.args.map Tm.toA)])]) (.bool false) trivial (Nat.le_refl 9) ?_ ?_ hs (awL9 (N:=13) ?_) (awS9 hτ) ?_ hτ ?_
        ·exact Nat.lt_succ_self 8
        ·exact ⟨⟨trivial,trivial,Za4 _,trivial,Za0 _,trivial⟩,trivial⟩
        ·simp [go_sem,Za3,Za0,Za4,Za7,Zcu]
        ·simp [go_sem,Za3,Za0,Za4,Za7,Zcu]
        refine hyk.mono ?_
        rintro r σ' ⟨rfl,rfl⟩
        refine ⟨rfl,by rw [hEl];exact Nat.le_refl _,by rw [hEl];exact hEs,fun b=>b,σ',by rw [hEl];rfl,fun _ _=>rfl,fun _ _ _ _ e=>e,?_,hEs,?_⟩
        ·have:=Zco (π:=fun b=>b) (B:=σ') (own:=[]) (τ:=[]) (by rw [hEl];exact hEs) (fun _ _=>rfl) trivial
         simpa using this
        ·rw [if_pos hkS]
         refine EvK.go 1000 ?_
         simp only [go_sem]
         refine EvK.go 1000 ?_
         simp only [go_sem]
         refine EvK.go 1000 ?_
         simp only [go_sem]
         refine EvK.go 1000 ?_
         simp only [go_sem]
         rw [Zax]
         exact ⟨σ',Zj9 _ _,by rw [hEl];exact Nat.le_refl _,by rw [hEl];exact hEs,trivial,rfl⟩
      ·have hn2:n=l.l.size:=by omega
       have hsl:(sideSpots i false l.l).length=l.l.size:=by simp only [sideSpots,List.length_map];exact Zc8 _ _
       have e0:(sideSpots i false l.l).drop n=[]:=List.drop_eq_nil_of_le (by omega)
       rw [e0,List.nil_append] at hpre2
       simp only [go_sem,hlt2]
       refine EvK.go 1000 ?_
       simp only [go_sem]
       refine ⟨⟨(1,k2),by simp only;omega,hk2,by simp only [restS];simpa using hpre2⟩,?_,by simp only;omega⟩
       exact ⟨⟨rfl,rfl⟩,Za3 _,Zas (Zam (show 9≤11 by decide) hs) ⟨trivial,⟨⟨trivial,Za0 _,trivial⟩,⟨trivial,Za0 _,trivial⟩,trivial⟩,trivial⟩⟩
    ·have hpre':SP.drop k'=sideSpots i true l.r++R:=by simpa [restS] using hpre'
     have hall:=Yie l.r (by omega)
     simp only [go_sem,hc2,List.getD_cons_zero,List.getD_cons_succ]
     refine VCall.isoT [] (hall) (by (try simp only [Za6]);exact Za1 _ _ _) (by simp [go_sem,Za7,Za0]) ?_;rw [Zah];simp only [ite_self];refine EvK.go 1000 ?_
     simp only [go_sem,Zi7,Zc8]
     refine EvK.loopI (ι:={q:Nat×Nat // q.1≤l.r.size∧q.2≤k0∧SP.drop q.2=(sideSpots i true l.r).drop q.1++R}) 1000
      (fun q=>mkT 54 [(0, .yld 8),(3, .int .i64 i),(5, .int .i64 1),(6, .ptr 11 0),(11, .ps 5 (lits c)),(12, .int .i64 c.length),(13, .int .i64 i),(22, .os 10 0 2 2),(23, .int .i64 ((2:Nat):Int)),(24, .int .i64 1),(30, .ps 1 (pps (l.r.spots []))),(31, .int .i64 l.r.size),(32, .int .i64 q.1.1)])
      (fun _=>[b0,b1,b2,b3,b4,b5,b6,some (.var [.ps 5 (lits c)]),b8,none,some (.row [.agg [.int .i64 l.l.head, .ps 2 (l.l.args.map Tm.toA)], .agg [.int .i64 l.r.head, .ps 2 (l.r.args.map Tm.toA)]] 0),some (.var [.int .i64 l.r.head, .ps 2 (l.r.args.map Tm.toA)])]) (fun q=>l.r.size - q.1.1) ⟨(0,k'),by simp only [List.drop_zero];exact ⟨Nat.zero_le _,hk',hpre'⟩⟩ ?_ (fun _=>by simp) ?_
     ·have hs3:=Zam (show 9≤12 by decide) hs
      simp only [go_sem,Za3,Za0,Zcu,hc2]
      exact Zas hs3 ⟨trivial,⟨⟨trivial,Za0 _,trivial⟩,⟨trivial,Za0 _,trivial⟩,trivial⟩,⟨trivial,Za0 _,trivial⟩,trivial⟩
     ·rintro ⟨⟨n,k2⟩,hn,hk2,hpre2⟩
      simp only at hn hk2 hpre2
      by_cases hlt2:(n:Int)<l.r.size
      ·have hlp:n<(l.r.spots []).length:=by rw [Zc8];omega
       have hw2:IntKind.i64.wrap ((n:Int)+1)=((n+1:Nat):Int):=by rw [Zab (by omega)];omega
       have hgp:(pps (l.r.spots [])).getD n .undef = .ps 1 (ints (l.r.spots [])[n]):=Zaq hlp
       obtain ⟨p',hp1,hp2,v,hv,hvs⟩:=Zis l.r [] _ (List.getElem_mem hlp)
       have hsn:n<(sideSpots i true l.r).length:=by simp only [sideSpots,List.length_map];exact hlp
       have hsg:(sideSpots i true l.r)[n]=⟨(i:Int),true,(l.r.spots [])[n],(l.r.atP (l.r.spots [])[n]).getD zeroT⟩:=by simp [sideSpots]
       rw [List.nil_append] at hp1
       rw [List.drop_eq_getElem_cons hsn,hsg,hp1,hv,Option.getD_some] at hpre2
       rw [hp1] at hgp
       have hat:=Yb7 l.r p' (by omega) (by omega)
       rw [hv,Option.getD_some] at hat
       simp only [go_sem,hlt2,Zi7,Zc8,hgp,Nat.zero_le]
       refine ⟨by omega,?_⟩
       refine VCall.isoT [] (hat) (by (try simp only [Za6]);exact Za1 _ _ _) (by simp [go_sem,Za7,Za0,Za4]) ?_;rw [Zah];simp only [ite_self];refine EvK.go 1000 ?_
       simp only [go_sem,Za8,Int.reduceEq]
       have hkS:k2<SP.length:=by
        have:=congrArg List.length hpre2
        simp only [List.length_drop,List.cons_append,List.length_cons] at this;omega
       rw [List.drop_eq_getElem_cons hkS,List.cons_append] at hpre2
       obtain ⟨e1,e2⟩:=List.cons.inj hpre2
       have hτ:lowSo 13 [none,some (Blk.row [.agg [.int .i64 l.l.head, .ps 2 (l.l.args.map Tm.toA)], .agg [.int .i64 l.r.head, .ps 2 (l.r.args.map Tm.toA)]] 0),some (Blk.var [.int .i64 l.r.head, .ps 2 (l.r.args.map Tm.toA)]),some (Blk.var [.int .i64 v.head, .ps 2 (v.args.map Tm.toA)])] :=
        ⟨trivial,⟨⟨trivial,Za0 _,trivial⟩,⟨trivial,Za0 _,trivial⟩,trivial⟩,⟨trivial,Za0 _,trivial⟩,⟨trivial,Za0 _,trivial⟩,trivial⟩
       by_cases hkk:k2<k0
       ·have hyk:=hy k2 hkS hkk
        rw [e1] at hyk
        refine EvK.callS (σ:=[b0,b1,b2,b3,b4,b5,b6,some (.var [.ps 5 (lits c)]),b8]) (τ:=[none,some (Blk.row [.agg [.int .i64 l.l.head, .ps 2 (l.l.args.map Tm.toA)], .agg [.int .i64 l.r.head, .ps 2 (l.r.args.map Tm.toA)]] 0),some (Blk.var [.int .i64 l.r.head, .ps 2 (l.r.args.map Tm.toA)]),some (Blk.var [.int .i64 v.head, .ps 2 (v.args.map Tm.toA)])]) (.bool true) trivial (Nat.le_refl 9) ?_ ?_ hs (awL9 (N:=13) ?_) (awS9 hτ) ?_ hτ ?_
        ·exact Nat.lt_succ_self 8
        ·exact ⟨⟨trivial,trivial,Za4 _,trivial,Za0 _,trivial⟩,trivial⟩
        ·simp [go_sem,Za3,Za0,Za4,Za7,Zcu]
        ·simp [go_sem,Za3,Za0,Za4,Za7,Zcu]
        refine hyk.mono ?_
        rintro r σ' ⟨rfl,rfl⟩
        refine ⟨rfl,Nat.le_refl _,hs,fun b=>b,[b0,b1,b2,b3,b4,b5,b6,some (.var [.ps 5 (lits c)]),b8],rfl,fun _ _=>rfl,fun _ _ _ _ e=>e,?_,hs,?_⟩
        ·have:=Zco (π:=fun b=>b) (B:=[b0,b1,b2,b3,b4,b5,b6,some (.var [.ps 5 (lits c)]),b8]) (own:=[]) (τ:=[]) hs (fun _ _=>rfl) trivial
         simpa using this
        ·refine EvK.go 1000 ?_
         simp only [go_sem]
         refine ⟨⟨(n+1,k2+1),by simp only;omega,by simp only;omega,by simp only;exact e2⟩,⟨by rw [hw2],Za3 _,Zas (Zam (show 9≤12 by decide) hs) ⟨trivial,⟨⟨trivial,Za0 _,trivial⟩,⟨trivial,Za0 _,trivial⟩,trivial⟩,⟨trivial,Za0 _,trivial⟩,trivial⟩⟩,by simp only;omega⟩
       ·have hke:k2=k0:=by omega
        subst hke
        have hyk:=hE hkS
        rw [e1] at hyk
        refine EvK.callS (σ:=[b0,b1,b2,b3,b4,b5,b6,some (.var [.ps 5 (lits c)]),b8]) (τ:=[none,some (Blk.row [.agg [.int .i64 l.l.head, .ps 2 (l.l.args.map Tm.toA)], .agg [.int .i64 l.r.head, .ps 2 (l.r.args.map Tm.toA)]] 0),some (Blk.var [.int .i64 l.r.head, .ps 2 (l.r.args.map Tm.toA)]),some (Blk.var [.int .i64 v.head, .ps 2 (v.args.map Tm.toA)])]) (.bool false) trivial (Nat.le_refl 9) ?_ ?_ hs (awL9 (N:=13) ?_) (awS9 hτ) ?_ hτ ?_
        ·exact Nat.lt_succ_self 8
        ·exact ⟨⟨trivial,trivial,Za4 _,trivial,Za0 _,trivial⟩,trivial⟩
        ·simp [go_sem,Za3,Za0,Za4,Za7,Zcu]
        ·simp [go_sem,Za3,Za0,Za4,Za7,Zcu]
        refine hyk.mono ?_
        rintro r σ' ⟨rfl,rfl⟩
        refine ⟨rfl,by rw [hEl];exact Nat.le_refl _,by rw [hEl];exact hEs,fun b=>b,σ',by rw [hEl];rfl,fun _ _=>rfl,fun _ _ _ _ e=>e,?_,hEs,?_⟩
        ·have:=Zco (π:=fun b=>b) (B:=σ') (own:=[]) (τ:=[]) (by rw [hEl];exact hEs) (fun _ _=>rfl) trivial
         simpa using this
        ·rw [if_pos hkS]
         refine EvK.go 1000 ?_
         simp only [go_sem]
         refine EvK.go 1000 ?_
         simp only [go_sem]
         refine EvK.go 1000 ?_
         simp only [go_sem]
         refine EvK.go 1000 ?_
         simp only [go_sem]
         rw [Zax]
         exact ⟨σ',Zj9 _ _,by rw [hEl];exact Nat.le_refl _,by rw [hEl];exact hEs,trivial,rfl⟩
      ·have hn2:n=l.r.size:=by omega
       have hsl:(sideSpots i true l.r).length=l.r.size:=by simp only [sideSpots,List.length_map];exact Zc8 _ _
       have e0:(sideSpots i true l.r).drop n=[]:=List.drop_eq_nil_of_le (by omega)
       rw [e0,List.nil_append] at hpre2
       simp only [go_sem,hlt2]
       refine EvK.go 1000 ?_
       simp only [go_sem]
       refine ⟨⟨(2,k2),by simp only;omega,hk2,by simp only [restS];simpa using hpre2⟩,?_,by simp only;omega⟩
       exact ⟨⟨rfl,by first | rfl | exact congrArg (AVal.int .i64) (Zab (n:=1+1) (by omega)).symm⟩,Za3 _,Zas (Zam (show 9≤11 by decide) hs) ⟨trivial,⟨⟨trivial,Za0 _,trivial⟩,⟨trivial,Za0 _,trivial⟩,trivial⟩,trivial⟩⟩
    ·have hpre2:SP.drop k'=R:=by simpa [restS] using hpre'
     simp only [go_sem,hc2,Int.lt_irrefl]
     refine EvK.go 1000 ?_
     simp only [go_sem,hw]
     refine ⟨⟨(i+1,k'),by simp only;omega,hk',by simp only;rw [hpre2,hR]⟩,?_,by simp only;omega⟩
     simp only [go_sem,Za3]
     exact hs
  ·have hi':i=c.length:=by omega
   subst hi'
   rw [List.drop_length,spotsF] at hpre
   have hkl:¬ k0<SP.length:=by have:=List.drop_eq_nil_iff.1 hpre;omega
   rw [if_neg hkl]
   simp only [go_sem,hlt]
   refine EvK.go 1000 ?_
   simp only [go_sem]
   rw [Zax]
   exact ⟨_,Za9 _,Nat.le_refl _,hs,trivial,rfl⟩
end Go.Proofs
namespace Go.Proofs
open Go Go.Abs
def firstU (T:Un→Spo→Tm×Bool) (s:Spo):List Un→Option (Un×Tm)
 | []=>none
 | u :: us=>if (T u s).2=true then some (u,(T u s).1) else firstU T s us
def firstS (T:Un→Spo→Tm×Bool) (us:List Un):List Spo→Option (Spo×Un×Tm)
 | []=>none
 | s :: ss=>match firstU T s us with
  | some x=>some (s,x)
  | none=>firstS T us ss
def stepF (g:List Sy) (T:Un→Spo→Tm×Bool) (us:List Un) (c:List Li):List Li×Int×Bool×Int :=
 match firstS T us (spotsF c 0) with
 | none=>(c, -1,false,0)
 | some (s,u,t)=>if clauseCheck g (putC c s t)=0 then (putC c s t,u.off,true,0) else ([],0,false,clauseCheck g (putC c s t))
theorem Zdr (T:Un→Spo→Tm×Bool) (us:List Un):∀ ss:List Spo,(firstS T us ss=none∧∀ s∈ss,firstU T s us=none)∨∃ (k:Nat) (h:k<ss.length) (x:Un×Tm),firstS T us ss=some (ss[k],x)∧firstU T ss[k] us=some x∧∀ j (hj:j<ss.length),j<k→firstU T ss[j] us=none
 | []=>.inl ⟨rfl,fun s h=>by cases h⟩
 | s :: ss=>by
  cases hu:firstU T s us with
  | some x=>exact .inr ⟨0,by simp,x,by simp [firstS,hu],by simpa using hu,fun j _ h=>by omega⟩
  | none =>
   rcases Zdr T us ss with ⟨h1,h2⟩ | ⟨k,h,x,h1,h2,h3⟩
   ·refine .inl ⟨by simp [firstS,hu,h1],fun y hy=>?_⟩
    rcases List.mem_cons.1 hy with rfl | hy
    ·exact hu
    ·exact h2 y hy
   ·refine .inr ⟨k+1,by simpa using h,x,by simp [firstS,hu,h1],by simpa using h2,fun j hj hjk=>?_⟩
    cases j with
    | zero=>simpa using hu
    | succ j=>simpa using h3 j (by simpa using hj) (by omega)
end Go.Proofs
namespace Go.Proofs
open Go Go.Abs
attribute [local go_sem] Nat.reduceAdd Nat.reduceSub Nat.reduceMul Nat.reduceLeDiff Nat.reduceEqDiff Nat.reduceBEq Nat.reduceLT Nat.le_refl Int.natCast_zero Nat.sub_zero List.length_map Int.toNat_natCast Int.natCast_one Int.reduceEq Int.reduceLT Int.reduceLE Int.reduceNe Int.sub_zero Int.zero_add Int.toNat_one
theorem Yf7 (g:List Sy) (us:List Un) (c:List Li) (T:Un→Spo→Tm×Bool) (hul:us.length<1000000) (hcl:c.length<1000000) (hc:∀ l∈c,l.l.size≤400∧l.r.size≤400)
  (hT:∀ u∈us, ∀ s∈spotsF c 0,CallEq Tryz.prog 54 [.ps 4 (syms g),u.toA,s.t.toA, .ps 5 (lits c)] (.tup [(T u s).1.toA, .bool (T u s).2]))
  (hP:∀ u∈us, ∀ s∈spotsF c 0,CallEq Tryz.prog 55 [.ps 5 (lits c),s.toA,(T u s).1.toA] (.ps 5 (lits (putC c s (T u s).1))))
  (hK:∀ u∈us, ∀ s∈spotsF c 0,(T u s).2=true→CallEq Tryz.prog 36 [.ps 4 (syms g), .ps 5 (lits (putC c s (T u s).1))] (.int .i64 (clauseCheck g (putC c s (T u s).1)))) :
  CallEq Tryz.prog 26 [.ps 4 (syms g), .ps 5 (uns us), .ps 5 (lits c)] (.tup [.ps 5 (lits (stepF g T us c).1), .int .i64 (stepF g T us c).2.1, .bool (stepF g T us c).2.2.1, .int .i64 (stepF g T us c).2.2.2]):=by
 refine CallEq.begin (rs:=[.cell 6 24, .cell 7 3, .cell 8 4, .cell 9 26]) (m:=49) 1000 Tryz.func26 rfl rfl rfl (by decide) ⟨Za3 _,trivial,trivial,trivial,trivial⟩ ?_
 simp only [go_sem]
 refine (Yb3 c _ ?_).mono ?_
 ·simp [go_sem,Za3,Za5,Zbp]
 rintro _ _ ⟨rfl,rfl⟩
 refine EvK.go 1000 ?_
 simp only [go_sem]
 refine EvK.rangeFunc (mkT 52 [(3, .ptr 0 0),(4, .ptr 1 0),(5, .ptr 2 0),(6, .ptr 3 0),(7, .ptr 4 0),(8, .ptr 5 0),(9, .ptr 6 0)]) ?_ ?_ (fun ρ ht hpa hat hbo=>?_)
 ·simp only [go_sem]
 ·exact fun b hb=>by cases hb
 simp only [go_sem]
 have hρl:∀ n,7≤n→lowL n ρ.tm:=fun n hn=>Zac hn (show lowL 7 ρ.tm by rw [ht];simp [go_sem,Zd7,Zf1])
 have hst:∀ (a:AVal) (b c' d:AVal) (s:LState),a.low 0→b.low 0→c'.low 0→d.low 0→lowSo 9 [some (Blk.var [.ps 4 (syms g)]),some (Blk.var [.ps 5 (uns us)]),some (Blk.var [.ps 5 (lits c)]),some (Blk.var [a]),some (Blk.var [b]),some (Blk.var [c']),some (Blk.var [d]),some (Blk.var [.ps 5 (lits c)]),some (Blk.loop (ρ.at s))]:=fun a b c' d s h1 h2 h3 h4 =>
  ⟨⟨Za5 _,trivial⟩,⟨Zbp _,trivial⟩,⟨Za3 _,trivial⟩,⟨Zau (Nat.zero_le _) h1,trivial⟩,⟨Zau (Nat.zero_le _) h2,trivial⟩,⟨Zau (Nat.zero_le _) h3,trivial⟩,⟨Zau (Nat.zero_le _) h4,trivial⟩,⟨Za3 _,trivial⟩,hρl 9 (by decide),trivial⟩
 have hgo:∀ k (h:k<(spotsF c 0).length),firstU T (spotsF c 0)[k] us=none→VCall Tryz.prog (.yld 8) [(spotsF c 0)[k].toA] [some (Blk.var [.ps 4 (syms g)]),some (Blk.var [.ps 5 (uns us)]),some (Blk.var [.ps 5 (lits c)]),some (Blk.var [.nils]),some (Blk.var [.int .i64 0]),some (Blk.var [.bool false]),some (Blk.var [.int .i64 0]),some (Blk.var [.ps 5 (lits c)]),some (Blk.loop (ρ.at .ready))] (fun r σ'=>r = .bool true∧σ'=[some (Blk.var [.ps 4 (syms g)]),some (Blk.var [.ps 5 (uns us)]),some (Blk.var [.ps 5 (lits c)]),some (Blk.var [.nils]),some (Blk.var [.int .i64 0]),some (Blk.var [.bool false]),some (Blk.var [.int .i64 0]),some (Blk.var [.ps 5 (lits c)]),some (Blk.loop (ρ.at .ready))]):=fun k h hfu=>by
  refine VCall.yieldK 1000 ht hpa hat hbo rfl rfl ?_
  simp only [go_sem,Zjs,Zbv]
  have hmem:=List.getElem_mem h
  have hTs:∀ u∈us,CallEq Tryz.prog 54 [.ps 4 (syms g),u.toA,(spotsF c 0)[k].t.toA, .ps 5 (lits c)] (.tup [(T u (spotsF c 0)[k]).1.toA, .bool (T u (spotsF c 0)[k]).2]):=fun u hu=>hT u hu _ hmem
  generalize (spotsF c 0)[k]=sp at *
  have hno:∀ (l:List Un),firstU T sp l=none→∀ u∈l,(T u sp).2=false:=fun l=>by
   induction l with
   | nil=>intro _ u hu;cases hu
   | cons a l ih =>
    intro hf u hu
    rw [firstU] at hf
    cases ha:(T a sp).2 with
    | true=>rw [ha] at hf;simp at hf
    | false =>
     rw [ha] at hf
     rcases List.mem_cons.1 hu with rfl | hu
     ·exact ha
     ·exact ih (by simpa using hf) u hu
  have hlo:=hst .nils (.int .i64 0) (.bool false) (.int .i64 0) .busy trivial trivial trivial trivial
  have hlo2:lowSo 10 [some (Blk.var [.ps 4 (syms g)]),some (Blk.var [.ps 5 (uns us)]),some (Blk.var [.ps 5 (lits c)]),some (Blk.var [.nils]),some (Blk.var [.int .i64 0]),some (Blk.var [.bool false]),some (Blk.var [.int .i64 0]),some (Blk.var [.ps 5 (lits c)]),some (Blk.loop (ρ.at .busy)),some (Blk.var [.int .i64 sp.i, .bool sp.rt, .ps 1 (ints sp.p), .int .i64 sp.t.head, .ps 2 (sp.t.args.map Tm.toA)])] :=
   Zas (Zam (show 9≤10 by decide) hlo) ⟨⟨trivial,trivial,Za4 _,trivial,Za0 _,trivial⟩,trivial⟩
  refine EvK.loopI (ι:={j:Nat // j≤us.length}) 1000 (fun q=>mkT 52 [(3, .ptr 0 0),(4, .ptr 1 0),(5, .ptr 2 0),(6, .ptr 3 0),(7, .ptr 4 0),(8, .ptr 5 0),(9, .ptr 6 0),(10, .ptr 9 0),(20, .ps 5 (uns us)),(21, .int .i64 us.length),(22, .int .i64 q.1)])
   (fun _=>[some (Blk.var [.ps 4 (syms g)]),some (Blk.var [.ps 5 (uns us)]),some (Blk.var [.ps 5 (lits c)]),some (Blk.var [.nils]),some (Blk.var [.int .i64 0]),some (Blk.var [.bool false]),some (Blk.var [.int .i64 0]),some (Blk.var [.ps 5 (lits c)]),some (Blk.loop (ρ.at .busy)),some (Blk.var [.int .i64 sp.i, .bool sp.rt, .ps 1 (ints sp.p), .int .i64 sp.t.head, .ps 2 (sp.t.args.map Tm.toA)])])
   (fun q=>us.length - q.1) ⟨0,Nat.zero_le _⟩ ?_ (fun _=>by simp) ?_
  ·simp only [go_sem,of_eq_true (show lowL 10 (uns us)=True from eq_true (Zbp us))]
   exact ⟨Za5 _,Za3 _,Za3 _,hρl 10 (by decide),Za4 _,Za0 _⟩
  ·rintro ⟨j,hj⟩
   by_cases hlt:(j:Int)<us.length
   ·have hlt':j<us.length:=by omega
    have hw:IntKind.i64.wrap ((j:Int)+1)=((j+1:Nat):Int):=by rw [Zab (by omega)];omega
    have hgu:(uns us).getD j .undef=us[j].toA:=Zaq hlt'
    have hum:=List.getElem_mem hlt'
    have hcall:=hTs _ hum
    rw [hno us hfu _ hum] at hcall
    generalize us[j]=u at *
    simp only [go_sem,hlt,Zbv,hgu,Zfx]
    refine ⟨by omega,?_⟩
    refine VCall.isoT [] hcall (by simp only [Za6];exact Za1 _ _ _) ⟨Za5 _,Zuy u,Za7 _,Za3 _,trivial⟩ ?_
    rw [Zah];simp only [ite_self]
    refine EvK.go 1000 ?_
    simp only [go_sem,Za8,hw]
    refine ⟨⟨j+1,by omega⟩,?_,by simp only;omega⟩
    simp only [go_sem,of_eq_true (show lowL 10 (uns us)=True from eq_true (Zbp us))]
    exact ⟨Za5 _,Za3 _,Za3 _,hρl 10 (by decide),Za4 _,Za0 _⟩
   ·simp only [go_sem,hlt]
    refine EvK.go 1000 ?_
    simp only [go_sem]
    rw [Zfe]
    exact ⟨rfl,[some (Blk.var [.ps 4 (syms g)]),some (Blk.var [.ps 5 (uns us)]),some (Blk.var [.ps 5 (lits c)]),some (Blk.var [.nils]),some (Blk.var [.int .i64 0]),some (Blk.var [.bool false]),some (Blk.var [.int .i64 0]),some (Blk.var [.ps 5 (lits c)]),some (Blk.loop (ρ.at .ready))],by simp [go_sem],Nat.le_refl _,hst _ _ _ _ _ trivial trivial trivial trivial,rfl,rfl⟩
 rcases Zdr T us (spotsF c 0) with ⟨f1,f2⟩ | ⟨k,hk,x,f1,f2,f3⟩
 ·refine (Zp8 c hcl hc _ _ _ _ _ _ _ _ _ (spotsF c 0).length rfl (hst .nils (.int .i64 0) (.bool false) (.int .i64 0) .ready trivial trivial trivial trivial) (hst .nils (.int .i64 0) (.bool false) (.int .i64 0) .ready trivial trivial trivial trivial) (fun k h _=>?_) (fun h=>absurd h (Nat.lt_irrefl _))).mono ?_
  ·exact hgo k h (f2 _ (List.getElem_mem h))
  ·have hF:stepF g T us c=(c, -1,false,0):=by unfold stepF;rw [f1]
   rintro r' σ2 rfl
   rw [if_neg (Nat.lt_irrefl _),Zst]
   refine ⟨.ready,rfl,?_⟩
   rw [Zfz,hF]
   refine EvK.go 1000 ?_
   simp only [go_sem]
 ·have hmem:=List.getElem_mem hk
  obtain ⟨z,hz⟩:∃ z,stepF g T us c=z:=⟨_,rfl⟩
  rw [hz]
  obtain ⟨a3,ha3⟩:∃ a3:AVal,a3=if clauseCheck g (putC c (spotsF c 0)[k] x.2)=0 then .ps 5 (lits z.1) else .nils:=⟨_,rfl⟩
  have ha3l:a3.low 0:=by rw [ha3];split<;>simp [go_sem,Za3]
  have hstop:VCall Tryz.prog (.yld 8) [(spotsF c 0)[k].toA] [some (Blk.var [.ps 4 (syms g)]),some (Blk.var [.ps 5 (uns us)]),some (Blk.var [.ps 5 (lits c)]),some (Blk.var [.nils]),some (Blk.var [.int .i64 0]),some (Blk.var [.bool false]),some (Blk.var [.int .i64 0]),some (Blk.var [.ps 5 (lits c)]),some (Blk.loop (ρ.at .ready))] (fun r σ'=>r = .bool false∧σ'=[some (Blk.var [.ps 4 (syms g)]),some (Blk.var [.ps 5 (uns us)]),some (Blk.var [.ps 5 (lits c)]),some (Blk.var [a3]),some (Blk.var [.int .i64 z.2.1]),some (Blk.var [.bool z.2.2.1]),some (Blk.var [.int .i64 z.2.2.2]),some (Blk.var [.ps 5 (lits c)]),some (Blk.loop (ρ.at (.done .ret)))]):=by
   refine VCall.yieldK 1000 ht hpa hat hbo rfl rfl ?_
   simp only [go_sem,Zjs,Zbv]
   have hzz:z=if clauseCheck g (putC c (spotsF c 0)[k] x.2)=0 then (putC c (spotsF c 0)[k] x.2,x.1.off,true,0) else ([],0,false,clauseCheck g (putC c (spotsF c 0)[k] x.2)):=by
    rw [← hz];unfold stepF;rw [f1]
   have hTs:∀ u∈us,CallEq Tryz.prog 54 [.ps 4 (syms g),u.toA,(spotsF c 0)[k].t.toA, .ps 5 (lits c)] (.tup [(T u (spotsF c 0)[k]).1.toA, .bool (T u (spotsF c 0)[k]).2]):=fun u hu=>hT u hu _ hmem
   have hPs:=fun u hu=>hP u hu _ hmem
   have hKs:=fun u hu=>hK u hu _ hmem
   generalize (spotsF c 0)[k]=sp at *
   have hlo2:lowSo 10 [some (Blk.var [.ps 4 (syms g)]),some (Blk.var [.ps 5 (uns us)]),some (Blk.var [.ps 5 (lits c)]),some (Blk.var [.nils]),some (Blk.var [.int .i64 0]),some (Blk.var [.bool false]),some (Blk.var [.int .i64 0]),some (Blk.var [.ps 5 (lits c)]),some (Blk.loop (ρ.at .busy)),some (Blk.var [.int .i64 sp.i, .bool sp.rt, .ps 1 (ints sp.p), .int .i64 sp.t.head, .ps 2 (sp.t.args.map Tm.toA)])] :=
    Zas (Zam (show 9≤10 by decide) (hst .nils (.int .i64 0) (.bool false) (.int .i64 0) .busy trivial trivial trivial trivial)) ⟨⟨trivial,trivial,Za4 _,trivial,Za0 _,trivial⟩,trivial⟩
   refine EvK.loopI (ι:={j:Nat // j≤us.length∧firstU T sp (us.drop j)=some x}) 1000 (fun q=>mkT 52 [(3, .ptr 0 0),(4, .ptr 1 0),(5, .ptr 2 0),(6, .ptr 3 0),(7, .ptr 4 0),(8, .ptr 5 0),(9, .ptr 6 0),(10, .ptr 9 0),(20, .ps 5 (uns us)),(21, .int .i64 us.length),(22, .int .i64 q.1)])
    (fun _=>[some (Blk.var [.ps 4 (syms g)]),some (Blk.var [.ps 5 (uns us)]),some (Blk.var [.ps 5 (lits c)]),some (Blk.var [.nils]),some (Blk.var [.int .i64 0]),some (Blk.var [.bool false]),some (Blk.var [.int .i64 0]),some (Blk.var [.ps 5 (lits c)]),some (Blk.loop (ρ.at .busy)),some (Blk.var [.int .i64 sp.i, .bool sp.rt, .ps 1 (ints sp.p), .int .i64 sp.t.head, .ps 2 (sp.t.args.map Tm.toA)])])
    (fun q=>us.length - q.1) ⟨0,Nat.zero_le _,by simpa using f2⟩ ?_ (fun _=>by simp) ?_
   ·simp only [go_sem,of_eq_true (show lowL 10 (uns us)=True from eq_true (Zbp us))]
    exact ⟨Za5 _,Za3 _,Za3 _,hρl 10 (by decide),Za4 _,Za0 _⟩
   ·rintro ⟨j,hj,hfx⟩
    by_cases hlt':j<us.length
    ·have hlt:(j:Int)<us.length:=by omega
     have hw:IntKind.i64.wrap ((j:Int)+1)=((j+1:Nat):Int):=by rw [Zab (by omega)];omega
     have hgu:(uns us).getD j .undef=us[j].toA:=Zaq hlt'
     have hum:=List.getElem_mem hlt'
     have hcall:=hTs _ hum
     have hPu:=hPs _ hum
     have hKu:=hKs _ hum
     rw [List.drop_eq_getElem_cons hlt',firstU] at hfx
     generalize us[j]=u at *
     simp only [go_sem,hlt,Zbv,hgu,Zfx]
     refine ⟨by omega,?_⟩
     refine VCall.isoT [] hcall (by simp only [Za6];exact Za1 _ _ _) ⟨Za5 _,Zuy u,Za7 _,Za3 _,trivial⟩ ?_
     rw [Zah];simp only [ite_self]
     refine EvK.go 1000 ?_
     cases hq:(T u sp).2 with
     | false =>
      rw [hq] at hfx
      simp only [Bool.false_eq_true,if_false] at hfx
      simp only [go_sem,hq,Za8,hw]
      refine ⟨⟨j+1,by omega,hfx⟩,?_,by simp only;omega⟩
      simp only [go_sem,of_eq_true (show lowL 10 (uns us)=True from eq_true (Zbp us))]
      exact ⟨Za5 _,Za3 _,Za3 _,hρl 10 (by decide),Za4 _,Za0 _⟩
     | true =>
      rw [hq,if_pos rfl] at hfx
      obtain rfl:=Option.some.inj hfx
      simp only at hzz hKu ha3
      simp only [go_sem,hq,Za8]
      refine VCall.isoT [] hPu (by simp only [Za6];exact Za1 _ _ _) ⟨Za3 _,Ymo sp,Za7 _,trivial⟩ ?_
      rw [Zah];simp only [ite_self]
      refine EvK.go 1000 ?_
      simp only [go_sem]
      refine VCall.isoT [] (hKu hq) (Za1 _ _ _) ⟨Za5 _,Za3 _,trivial⟩ ?_
      rw [Zah];simp only [ite_self]
      refine EvK.go 1000 ?_
      by_cases hck:clauseCheck g (putC c sp (T u sp).1)=0
      ·rw [if_pos hck] at hzz ha3
       subst hzz
       subst ha3
       simp only [go_sem,hck]
       refine EvK.draw [.no,⟨none,[],[3]⟩,⟨none,[],[3]⟩,⟨none,[3],[]⟩,⟨none,[4],[]⟩,⟨none,[5],[]⟩,⟨none,[6],[]⟩] 12 12 mixed rfl rfl (by decide) ?_
       simp only [go_sem,padS]
       refine EvK.go 1000 ?_
       simp only [go_sem]
       refine EvK.go 1000 ?_
       simp only [go_sem]
       rw [Zfe]
       exact ⟨rfl,[some (Blk.var [.ps 4 (syms g)]),some (Blk.var [.ps 5 (uns us)]),some (Blk.var [.ps 5 (lits c)]),some (Blk.var [.ps 5 (lits (putC c sp (T u sp).1))]),some (Blk.var [.int .i64 u.off]),some (Blk.var [.bool true]),some (Blk.var [.int .i64 0]),some (Blk.var [.ps 5 (lits c)]),some (Blk.loop (ρ.at (.done .ret)))],by simp [go_sem],Nat.le_refl _,hst _ _ _ _ _ (Za3 _) trivial trivial trivial,rfl,rfl⟩
      ·rw [if_neg hck] at hzz ha3
       subst hzz
       subst ha3
       simp only [go_sem,hck]
       refine EvK.go 1000 ?_
       simp only [go_sem]
       rw [Zfe]
       exact ⟨rfl,[some (Blk.var [.ps 4 (syms g)]),some (Blk.var [.ps 5 (uns us)]),some (Blk.var [.ps 5 (lits c)]),some (Blk.var [.nils]),some (Blk.var [.int .i64 0]),some (Blk.var [.bool false]),some (Blk.var [.int .i64 (clauseCheck g (putC c sp (T u sp).1))]),some (Blk.var [.ps 5 (lits c)]),some (Blk.loop (ρ.at (.done .ret)))],by simp [go_sem],Nat.le_refl _,hst _ _ _ _ _ trivial trivial trivial trivial,rfl,rfl⟩
    ·rw [List.drop_eq_nil_of_le (by omega),firstU] at hfx
     cases hfx
  refine (Zp8 c hcl hc _ _ _ _ _ _ _ _ [some (Blk.var [.ps 4 (syms g)]),some (Blk.var [.ps 5 (uns us)]),some (Blk.var [.ps 5 (lits c)]),some (Blk.var [a3]),some (Blk.var [.int .i64 z.2.1]),some (Blk.var [.bool z.2.2.1]),some (Blk.var [.int .i64 z.2.2.2]),some (Blk.var [.ps 5 (lits c)]),some (Blk.loop (ρ.at (.done .ret)))] k rfl (hst _ _ _ _ _ ha3l trivial trivial trivial) (hst .nils (.int .i64 0) (.bool false) (.int .i64 0) .ready trivial trivial trivial trivial) (fun j h hjk=>hgo j h (f3 j h hjk)) (fun _=>hstop)).mono ?_
  rintro r' σ2 rfl
  rw [if_pos hk,Zst]
  refine ⟨.done .ret,rfl,?_⟩
  rw [Ypc]
  have hz1:clauseCheck g (putC c (spotsF c 0)[k] x.2)≠0→z.1=[]:=fun hne=>by
   rw [← hz];unfold stepF;rw [f1];simp only [if_neg hne]
  by_cases hck:clauseCheck g (putC c (spotsF c 0)[k] x.2)=0
  ·rw [if_pos hck] at ha3
   subst ha3
   refine EvK.go 1000 ?_
   simp only [go_sem]
  ·rw [if_neg hck] at ha3
   subst ha3
   rw [hz1 hck]
   refine EvK.go 1000 ?_
   simp only [go_sem,show lits []=[] from rfl]
def nxZ (g:List Sy) (us:List Un) (c:List Li) (u:List Int):Store:=[some (.var [.ps 4 (syms g)]),some (.var [.ps 5 (lits c)]),some (.var [slA 4 1 (ints u)]),some (.var [.ps 5 (uns us)]),slB (ints u)]
def nxR (g:List Sy) (us:List Un) (c:List Li) (u:List Int):Store:=[some (.var [.ps 4 (syms g)]),some (.var [.ps 5 (lits c)]),some (.var [slA 6 1 (ints u)]),some (.var [.ps 5 (uns us)]),none,none,slB (ints u)]
theorem Yn1 (g:List Sy) (us:List Un) (c:List Li) (u:List Int) (z:List Li×Int×Bool×Int) (hu:u.length<1000000)
  (hS:CallEq Tryz.prog 26 [.ps 4 (syms g), .ps 5 (uns us), .ps 5 (lits c)] (.tup [.ps 5 (lits z.1), .int .i64 z.2.1, .bool z.2.2.1, .int .i64 z.2.2.2])) :
  VCall Tryz.prog (.fn 35 [] [.ptr 0 0, .ptr 3 0, .ptr 1 0, .ptr 2 0]) [] (nxZ g us c u)
   (fun r σ'=>r = .tup [.bool z.2.2.1, .int .i64 z.2.2.2]∧σ'=if z.2.2.2=0∧z.2.2.1=true then nxR g us z.1 (u++[z.2.1]) else nxZ g us c u):=by
 unfold nxZ
 refine VCall.begin (rs:=[.tmp 4, .tmp 5]) (m:=27) 1000 Tryz.func35 rfl rfl rfl rfl rfl ?_
 simp only [go_sem]
 refine VCall.isoT [] hS (Za1 _ _ _) ⟨Za5 _,Zbp _,Za3 _,trivial⟩ ?_
 rw [Zah];simp only [ite_self]
 refine EvK.go 1000 ?_
 have hlow:lowSo 5 (nxZ g us c u):=by
  unfold nxZ
  simp [go_sem,Za5,Za3,Zbp,Za4]
 by_cases h1:z.2.2.2=0
 ·cases h2:z.2.2.1 with
  | true =>
   have hg2:getS [some (Blk.var [AVal.ps 4 (syms g)]),some (Blk.var [AVal.ps 5 (lits c)]),some (Blk.var [slA 4 1 (ints u)]),some (Blk.var [AVal.ps 5 (uns us)]),slB (ints u),some (Blk.row [AVal.int .i64 z.2.1] 0)] 4=slB (ints u):=by simp [getS]
   simp only [go_sem,h1,Ze3 hg2,appOk,List.mem_singleton,forall_eq,Nat.zero_lt_one,Nat.le_refl,Zad]
   refine ⟨by omega,?_⟩
   rw [Zax]
   unfold nxR
   rw [Zex,Ze4 (by simp),Zdz (by simp),Zad]
   refine ⟨_,?_,by simp,?_,by simp [go_sem],rfl,rfl⟩
   ·simp [leSo]
   ·simp [go_sem,Za5,Za3,Zbp]
    rw [Zjl];exact Za4 _
  | false =>
   simp only [go_sem,h1]
   rw [Zax]
   exact ⟨_,Za9 _,by simp,hlow,by simp [go_sem],rfl,rfl⟩
 ·simp only [go_sem,h1]
  rw [Zax]
  exact ⟨_,Za9 _,by simp,hlow,by simp [go_sem],rfl,rfl⟩
def normF (S:List Li→List Li×Int×Bool×Int):Nat→List Li→List Int→List Li×List Int×Int
 | 0,_,_=>([],[],9)
 | n+1,c,u=>if (S c).2.2.2≠0 then ([],[],(S c).2.2.2) else if (S c).2.2.1=false then (c,u,0) else if 200<u.length+1 then ([],[],9) else normF S n (S c).1 (u++[(S c).2.1])
theorem Zuh (S:List Li→List Li×Int×Bool×Int):∀ n c u,u.length≤200→(normF S n c u).2.1.length≤200
 | 0,_,_,_=>Nat.zero_le _
 | n+1,c,u,hu=>by
  rw [normF]
  split
  ·exact Nat.zero_le _
  split
  ·exact hu
  split
  ·exact Nat.zero_le _
  ·exact Zuh S n _ _ (by rw [List.length_append];simp only [List.length_cons,List.length_nil];omega)
def normalF (w:Int) (S:List Li→List Li×Int×Bool×Int) (c:List Li):List Li×List Int×Int:=if w≠0 then ([],[],w) else normF S 201 c []
theorem Zza (g:List Sy) (es:List (List Li)) (us:List Un) (c:List Li) (w:Int) (S:List Li→List Li×Int×Bool×Int) (I:List Li→Prop)
  (hW:CallEq Tryz.prog 25 [.ps 4 (syms g), .ps 1 (clsA es), .ps 5 (lits c)] (.int .i64 w))
  (hU:w=0→CallEq Tryz.prog 27 [.ps 1 (clsA es)] (.ps 5 (uns us)))
  (hI:w=0→I c) (hII:∀ d,I d→(S d).2.2.2=0→(S d).2.2.1=true→I (S d).1)
  (hS:∀ d,I d→CallEq Tryz.prog 26 [.ps 4 (syms g), .ps 5 (uns us), .ps 5 (lits d)] (.tup [.ps 5 (lits (S d).1), .int .i64 (S d).2.1, .bool (S d).2.2.1, .int .i64 (S d).2.2.2])) :
  CallEq Tryz.prog 13 [.ps 4 (syms g), .ps 1 (clsA es), .ps 5 (lits c)] (.tup [.ps 5 (lits (normalF w S c).1), .ps 1 (ints (normalF w S c).2.1), .int .i64 (normalF w S c).2.2]):=by
 refine CallEq.begin (rs:=[.tmp 6, .tmp 7, .tmp 8]) (m:=40) 1000 Tryz.func13 rfl rfl rfl (by decide) ⟨Za3 _,Za4 _,trivial,trivial⟩ ?_
 simp only [go_sem]
 refine VCall.isoT [] hW (Za1 _ _ _) ⟨Za5 _,Zav _,Za3 _,trivial⟩ ?_
 simp only [flatR,flatA,flatC,if_true]
 refine EvK.go 1000 ?_
 by_cases h0:w=0
 ·subst h0
  have hF:normalF 0 S c=normF S 201 c []:=by simp [normalF]
  rw [hF]
  obtain ⟨Z,hZ⟩:∃ Z,normF S 201 c []=Z:=⟨_,rfl⟩
  rw [hZ]
  simp only [go_sem]
  refine VCall.isoT [] (hU rfl) (Za1 _ _ _) ⟨Zav _,trivial⟩ ?_
  rw [Zah];simp only [ite_self]
  refine EvK.go 1000 ?_
  simp only [go_sem]
  have hlow:∀ (d:List Li) (u:List Int),lowSo 5 (nxZ g us d u):=fun d u=>by
   unfold nxZ
   simp [go_sem,Za5,Za3,Zbp,Za4]
  refine EvK.loopR (ι:={q:List Li×List Int // I q.1∧q.2.length≤200∧normF S (201 - q.2.length) q.1 q.2=Z}) 1000
   (fun _=>mkT 43 [(5, .ptr 1 0),(6, .nils),(7, .nils),(8, .int .i64 0),(10, .ptr 2 0),(12, .fn 35 [] [.ptr 0 0, .ptr 3 0, .ptr 1 0, .ptr 2 0])])
   (fun q=>nxZ g us q.1.1 q.1.2) (fun q=>201 - q.1.2.length) ⟨(c,[]),hI rfl,by simp,hZ⟩ [] ?_ (fun _=>by simp [nxZ]) ?_
  ·refine Zb0 rfl ?_
   unfold nxZ
   simp only [go_sem,Zcy,Zcd,Zc7,Za5,Za3,Zbp,Za2 (Za5 _),Za2 (Za3 _),Za2 (Zbp _)]
  ·rintro ⟨⟨d,u⟩,hid,hu,hn⟩
   simp only at hid hu hn
   have hnx:=Yn1 g us d u (S d) (by omega) (hS d hid)
   have hnx2 : 201 - u.length=(200 - u.length)+1:=by omega
   rw [hnx2,normF] at hn
   obtain ⟨z,hz⟩:∃ z,S d=z:=⟨_,rfl⟩
   have hin:=hII d hid
   rw [hz] at hn hnx hin
   simp only [go_sem]
   refine hnx.mono ?_
   rintro r σ' ⟨rfl,rfl⟩
   by_cases h1:z.2.2.2=0
   ·cases h2:z.2.2.1 with
    | true =>
     rw [if_neg (by simp [h1]),if_neg (by simp [h2])] at hn
     rw [if_pos ⟨h1,rfl⟩]
     unfold nxR
     rw [Zex,Ze4 (by simp),Zdz (by simp),Zad,h1]
     refine EvK.go 1000 ?_
     simp only [go_sem]
     by_cases h3 : 200<((u.length+1:Nat):Int)
     ·simp only [go_sem,h3]
      rw [if_pos (by omega)] at hn
      subst hn
      refine EvK.go 1000 ?_
      simp only [go_sem]
      exact ⟨rfl,rfl⟩
     ·simp only [go_sem,h3]
      rw [if_neg (by omega)] at hn
      have hul:(u++[z.2.1]).length=u.length+1:=by simp
      refine ⟨⟨(z.1,u++[z.2.1]),hin h1 h2,by rw [hul];omega,by rw [hul,show 201 - (u.length+1)=200 - u.length by omega];exact hn⟩,[(4,6),(6,4)],Zb0 rfl ?_,by simp only [hul];omega⟩
      unfold nxZ
      have lw:lowL 0 (ints (u++[z.2.1])):=Za4 _
      rw [Zex] at lw
      simp only
      rw [Zex,Ze4 (by simp),Zdz (by simp),Zad]
      simp only [go_sem,Za5,Za3,Zbp,Za2 (Za5 _),Za2 (Za3 _),Za2 (Zbp _),Za2 lw,Zac (Nat.zero_le _) lw]
    | false =>
     rw [if_neg (by simp [h1]),if_pos h2] at hn
     rw [if_neg (by simp),h1]
     subst hn
     unfold nxZ
     refine EvK.go 1000 ?_
     simp only [go_sem]
     refine EvK.draw [] 5 5 mixed rfl rfl (by decide) ?_
     simp only [go_sem,padS]
     refine EvK.go 1000 ?_
     simp only [go_sem]
     refine EvK.go 1000 ?_
     simp only [go_sem,Zej]
   ·rw [if_pos h1] at hn
    rw [if_neg (by simp [h1])]
    subst hn
    unfold nxZ
    refine EvK.go 1000 ?_
    simp only [go_sem,h1]
    refine EvK.go 1000 ?_
    simp only [go_sem,h1]
    exact ⟨rfl,rfl⟩
 ·have hF:normalF w S c=([],[],w):=by simp [normalF,h0]
  rw [hF]
  simp only [go_sem,h0]
  exact ⟨rfl,rfl⟩
end Go.Proofs
namespace Go.Proofs
open Go Go.Abs
theorem Zjx {P:Tm→Prop} (hP:∀ t,P t→∀ u∈t.args,P u):∀ (p:List Int) (t v:Tm),P t→t.atP p=some v→P v
 | [],t,v,h,e=>by rw [Tm.atP] at e;cases e;exact h
 | n :: p,t,v,h,e=>by
  rw [Tm.atP] at e
  split at e
  ·cases e
  split at e
  ·rename_i h2
   exact Zjx hP p _ v (hP t h _ (List.getElem_mem h2)) e
  ·cases e
theorem Ylf {P:Tm→Prop} (hP:∀ t,P t→∀ u∈t.args,P u):∀ (s:List (Tm×Tm)) (m m':List Bd),gat s m=some m'→(∀ x∈s,P x.2)→(∀ b∈m,P b.t)→∀ b∈m',P b.t:=by
 intro s m
 induction s,m using gat.induct with
 | case1 m =>
  intro m' h h1 h2
  rw [gat] at h
  cases h
  exact h2
 | case2 x r m hv c hf he ih =>
  intro m' h h1 h2
  rw [gat,if_pos hv,hf] at h
  simp only [if_pos he] at h
  exact ih m' h (fun y hy=>h1 y (by simp [hy])) h2
 | case3 x r m hv c hf he =>
  intro m' h
  rw [gat,if_pos hv,hf] at h
  simp only [if_neg he] at h
  cases h
 | case4 x r m hv hf ih =>
  intro m' h h1 h2
  rw [gat,if_pos hv,hf] at h
  simp only at h
  refine ih m' h (fun y hy=>h1 y (by simp [hy])) (fun b hb=>?_)
  rcases List.mem_append.1 hb with hb | hb
  ·exact h2 b hb
  ·rw [List.mem_singleton.1 hb];exact h1 x (by simp)
 | case5 x r m hv hc =>
  intro m' h
  rw [gat,if_neg hv,if_pos hc] at h
  cases h
 | case6 x r m hv hc ih =>
  intro m' h h1 h2
  rw [gat,if_neg hv,if_neg hc] at h
  refine ih m' h (fun y hy=>?_) h2
  rcases List.mem_append.1 hy with hy | hy
  ·have hy:=List.mem_reverse.1 hy
   exact hP x.2 (h1 x (by simp)) _ (List.of_mem_zip hy).2
  ·exact h1 y (by simp [hy])
theorem Ybf {P:Tm→Prop} {m:List Bd} (h:∀ b∈m,P b.t) (ks:List Int):∀ b∈tidyP m ks,P b.t:=fun b hb=>by
 unfold tidyP at hb
 obtain ⟨v,_,hv⟩:=List.mem_filterMap.1 hb
 cases hf:m.find? (fun c=>c.v==v) with
 | none=>rw [hf] at hv;cases hv
 | some c =>
  rw [hf] at hv
  simp only at hv
  split at hv
  ·cases hv
  ·cases hv;exact h c (List.mem_of_find?_eq_some hf)
theorem Zys (m:List Bd) (ks:List Int):(tidyP m ks).length≤ks.length:=List.length_filterMap_le _ _
theorem Zub {P:Tm→Prop} (hP:∀ t,P t→∀ u∈t.args,P u) {a b:Tm} (hb:P b):∀ x∈(matP [a] [b]).1,P x.t:=by
 unfold matP
 split
 ·intro x hx;cases hx
 ·split
  ·intro x hx;cases hx
  ·rename_i m hm
   exact Ybf (Ylf hP _ _ _ hm (fun x hx=>by
    simp only [List.zip_cons_cons,List.zip_nil_right,List.reverse_cons,List.reverse_nil,List.nil_append,List.mem_singleton] at hx
    subst hx;exact hb) (fun b hb=>by cases hb)) _
def smT (t:Tm):Prop:=t.fit∧t.size≤400
theorem Zj5:∀ t,smT t→∀ u∈t.args,smT u:=fun t h u hu=>by
 have h1:=Zbl hu
 have h2:=Zay t
 exact ⟨Zca (Zcx h.1) u hu,by have:=h.2;omega⟩
theorem Ya4 (g:List Sy):∀ t,tmOk g t→∀ u∈t.args,tmOk g u:=fun t h u hu=>Znb h hu
theorem Yji:∀ (s:List (Tm×Tm)) (m m':List Bd),gat s m=some m'→m'.length≤m.length+stN s:=by
 intro s m
 induction s,m using gat.induct with
 | case1 m =>
  intro m' h
  rw [gat] at h
  cases h;omega
 | case2 x r m hv c hf he ih =>
  intro m' h
  rw [gat,if_pos hv,hf] at h
  simp only [if_pos he] at h
  have:=ih m' h
  simp only [stN];omega
 | case3 x r m hv c hf he =>
  intro m' h
  rw [gat,if_pos hv,hf] at h
  simp only [if_neg he] at h
  cases h
 | case4 x r m hv hf ih =>
  intro m' h
  rw [gat,if_pos hv,hf] at h
  simp only at h
  have:=ih m' h
  have hp:=Zdk x.1
  simp only [stN,List.length_append,List.length_cons,List.length_nil] at this ⊢;omega
 | case5 x r m hv hc =>
  intro m' h
  rw [gat,if_neg hv,if_pos hc] at h
  cases h
 | case6 x r m hv hc ih =>
  intro m' h
  rw [gat,if_neg hv,if_neg hc] at h
  have:=ih m' h
  have h2:=Ziz x.1 x.2 r
  simp only [stN];omega
theorem Yhw (a b:Tm):(matP [a] [b]).1.length≤a.size:=by
 unfold matP
 split
 ·exact Nat.zero_le _
 ·split
  ·exact Nat.zero_le _
  ·rename_i m hm
   have h1:=Yji _ _ _ hm
   have h2:=Zys m (sortI (m.map Bd.v))
   rw [Zeq,List.length_map] at h2
   simp only [List.zip_cons_cons,List.zip_nil_right,List.reverse_cons,List.reverse_nil,List.nil_append,stN,List.length_nil] at h1 ⊢
   omega
mutual
theorem Zym {bs:List Bd} (hb:∀ b∈bs,b.t.fit):∀ t:Tm,t.fit→(t.sub bs).fit
 | .mk h ts,hf=>by
  rw [Tm.sub]
  split
  ·unfold subOf
   cases hq:bs.find? (fun b=>b.v == -1 - (Tm.mk h ts).head) with
   | some b=>exact hb b (List.mem_of_find?_eq_some hq)
   | none=>exact hf
  ·exact ⟨hf.1,Ztk hb ts hf.2⟩
theorem Ztk {bs:List Bd} (hb:∀ b∈bs,b.t.fit):∀ ts:List Tm,Tm.fits ts→Tm.fits (Tm.subL bs ts)
 | [],_=>trivial
 | t :: ts,hf=>⟨Zym hb t hf.1,Ztk hb ts hf.2⟩
end
def mT (u:Un) (t:Tm):List Bd×Bool×Int:=matP [u.l] [t]
def aT (u:Un) (t:Tm):Tm×Int:=appS (mT u t).1 u.r
def kT (g:List Sy) (u:Un) (t:Tm):Int×Int:=(if firstW g [t,(aT u t).1]=0 then standF g t (aT u t).1 else 0,firstW g [t,(aT u t).1])
def qT (g:List Sy) (u:Un) (t:Tm) (c:List Li):Int×Int:=cmpC g [⟨false,t,(aT u t).1⟩] c
def turnT (g:List Sy) (c:List Li) (u:Un) (t:Tm):Tm×Bool:=turnF g u t (mT u t) (aT u t) (kT g u t) (qT g u t c)
def TT (g:List Sy) (c:List Li) (u:Un) (s:Spo):Tm×Bool:=turnT g c u s.t
theorem Zo4:zeroT.fit:=by unfold zeroT;exact ⟨by unfold In64;omega,trivial⟩
def rtT (g:List Sy) (t:Tm):Prop:=t.term g=0∧t.fit
theorem Zcg {g:List Sy} {t:Tm} (h:rtT g t):smT t:=⟨h.2,(Zbf (Zb8 h.1).1).1⟩
theorem Yig {g:List Sy} {t:Tm} (h:rtT g t):tmOk g t:=Zhl h.1 h.2
theorem Yov {g:List Sy} {u:Un} {t:Tm} (hr:rtT g u.r) (ht:smT t):(aT u t).1.fit∧(aT u t).1.size≤160000:=by
 have hb:=Zub Zj5 (a:=u.l) ht
 unfold aT appS
 split
 ·exact ⟨Zo4,by unfold zeroT;simp [Tm.size,Tm.sizes]⟩
 split
 ·have hg:=(Zbf (Zb8 hr.1).1).2.2
  have h1:=(Zbf (Zb8 hr.1).1).1
  have h2:=Zkz (mT u t).1.reverse 400 (by omega) (fun b hb'=>(hb b (List.mem_reverse.1 hb')).2) u.r hg
  refine ⟨Zym (fun b hb'=>(hb b (List.mem_reverse.1 hb')).1) u.r hr.2,?_⟩
  have h3:=Nat.mul_le_mul_right 400 h1
  simp only at h2 ⊢;omega
 ·exact ⟨Zo4,by unfold zeroT;simp [Tm.size,Tm.sizes]⟩
theorem Ydc {g:List Sy} {u:Un} {t:Tm} {m:List Bd×Bool×Int} {s:Tm×Int} {k q:Int×Int}:(turnF g u t m s k q).1=t∨(turnF g u t m s k q).1=s.1:=by
 unfold turnF
 repeat' split
 all_goals simp
theorem Zv4 {g:List Sy} {c:List Li} {u:Un} {t:Tm} (hr:rtT g u.r) (ht:smT t):(turnT g c u t).1.fit∧(turnT g c u t).1.size≤160000:=by
 unfold turnT
 rcases Ydc (g:=g) (u:=u) (t:=t) (m:=mT u t) (s:=aT u t) (k:=kT g u t) (q:=qT g u t c) with h | h
 ·rw [h];exact ⟨ht.1,by have:=ht.2;omega⟩
 ·rw [h];exact Yov hr ht
theorem Yg3 (g:List Sy) (hsig:sigOk g=true) (u:Un) (t:Tm) (c:List Li) (hl:rtT g u.l) (hr:rtT g u.r) (ht:tmOk g t) (hts:smT t) (hc0:c≠[]) (hcl:c.length≤400000) (hc:∀ l∈c,liOk g l) :
  CallEq Tryz.prog 54 [.ps 4 (syms g),u.toA,t.toA, .ps 5 (lits c)] (.tup [(turnT g c u t).1.toA, .bool (turnT g c u t).2]):=by
 obtain ⟨hg,hgl⟩:=Yjz hsig
 have hl2:=Zcg hl
 have hr2:=Zcg hr
 have hb:=Zub Zj5 (a:=u.l) hts
 have ha:=Yov hr hts (u:=u)
 refine Ycy g u t c (mT u t) (aT u t) (kT g u t) (qT g u t c) (Zh7 (Yig hl).2.1) (Zh7 ht.2.1) ?_ (fun _ _=>?_) (fun _ _ _=>?_) (fun _ _ _ _ _=>?_)
 ·exact Zz2 u.l t (by have:=hl2.2;omega) (by have:=hts.2;omega) hl2.1 hts.1
 ·have hlen:=Yhw u.l t
  refine Ybk _ u.r (by have:=hl2.2;unfold mT;omega) (fun b h=>by have:=(hb b h).2;omega) (by have:=hr2.2;omega) hr2.1 ?_
  have hg2:=(Zbf (Zb8 hr.1).1).2.2
  have h2:=Zkz (mT u t).1.reverse 400 (by omega) (fun b hb'=>(hb b (List.mem_reverse.1 hb')).2) u.r hg2
  have h3:=Nat.mul_le_mul_right 400 hr2.2
  omega
 ·refine Zsr g hg (by omega) t (aT u t).1 (by have:=hts.2;omega) (by have:=ha.2;omega) (fun h=>⟨ht,?_⟩)
  refine Zhl (g:=g) ?_ ha.1
  rw [firstW] at h
  split at h
  ·rw [firstW] at h
   split at h
   ·assumption
   ·rename_i h1 h2;exact absurd h h2
  ·rename_i h1;exact absurd h h1
 ·refine Zs2 g hg (by omega) _ c (by simp) hc0 (by simp) (by omega) (fun x hx=>?_) hc
  rw [List.mem_singleton.1 hx]
  exact Zlu ⟨by have:=hts.2;simp only;omega,by have:=ha.2;simp only;omega⟩ ⟨hts.1,ha.1⟩
theorem Zh3 {i:Nat} {rt:Bool} {t:Tm} {s:Spo} (h:s∈sideSpots i rt t):s.i=i∧s.rt=rt∧t.atP s.p=some s.t∧s.p.length<t.size:=by
 unfold sideSpots at h
 obtain ⟨p,hp,rfl⟩:=List.mem_map.1 h
 obtain ⟨p',rfl,h1,v,h2,_⟩:=Zis t [] p hp
 refine ⟨rfl,rfl,?_,by simpa using h1⟩
 simp only [List.nil_append,h2,Option.getD_some]
theorem Zcv:∀ (c:List Li) (i:Nat) (s:Spo),s∈spotsF c i→∃ (j:Nat) (h:j<c.length),s.i=((i+j:Nat):Int)∧((c[j]).side s.rt).atP s.p=some s.t∧s.p.length<((c[j]).side s.rt).size
 | [],_,_,h=>by rw [spotsF] at h;cases h
 | l :: c,i,s,h=>by
  rw [spotsF] at h
  rcases List.mem_append.1 h with h | h
  ·refine ⟨0,by simp,?_⟩
   unfold litSpots at h
   rcases List.mem_append.1 h with h | h
   ·obtain ⟨h1,h2,h3,h4⟩:=Zh3 h
    simp only [List.getElem_cons_zero,Li.side,h2]
    exact ⟨h1,by simpa using h3,by simpa using h4⟩
   ·obtain ⟨h1,h2,h3,h4⟩:=Zh3 h
    simp only [List.getElem_cons_zero,Li.side,h2]
    exact ⟨h1,by simpa using h3,by simpa using h4⟩
  ·obtain ⟨j,hj,h1,h2,h3⟩:=Zcv c (i+1) s h
   exact ⟨j+1,by simpa using hj,by rw [h1];omega,by simpa using h2,by simpa using h3⟩
def rtC (g:List Sy) (c:List Li):Prop:=clauseCheck g c=0∧∀ l∈c,l.l.fit∧l.r.fit
theorem Zgi {g:List Sy} {c:List Li} (h:clauseCheck g c=0):sigOk g=true∧c.length≤32∧∀ l∈c,l.check g=0:=by
 unfold clauseCheck at h
 split at h
 ·cases h
 split at h
 ·cases h
 rename_i h1 h2
 refine ⟨by simpa using h1,by omega,?_⟩
 have key:∀ c:List Li,litsCheck g c=0→∀ l∈c,l.check g=0:=by
  intro c
  induction c with
  | nil=>intro _ l hl;cases hl
  | cons a c ih =>
   intro h l hl
   rw [litsCheck] at h
   split at h
   ·rename_i h3;exact absurd h h3
   ·rename_i h3
    rcases List.mem_cons.1 hl with rfl | hl
    ·simpa using h3
    ·exact ih h l hl
 exact key c h
theorem Ze0 {g:List Sy} {c:List Li} (h:rtC g c) {l:Li} (hl:l∈c):rtT g l.l∧rtT g l.r:=by
 have h1:=Zcs ((Zgi h.1).2.2 l hl)
 have h2:=h.2 l hl
 exact ⟨⟨h1.1,h2.1⟩,h1.2,h2.2⟩
theorem Zgz {g:List Sy} {c:List Li} (h:rtC g c) {l:Li} (hl:l∈c) (b:Bool):rtT g (l.side b):=by
 unfold Li.side;split
 ·exact (Ze0 h hl).2
 ·exact (Ze0 h hl).1
theorem Yeu {g:List Sy} {c:List Li} (h:rtC g c):∀ l∈c,liOk g l:=fun l hl=>by
 obtain ⟨h1,h2⟩:=Ze0 h hl
 have s1:=Zcg h1
 have s2:=Zcg h2
 exact Zlu ⟨by have:=s1.2;omega,by have:=s2.2;omega⟩ ⟨s1.1,s2.1⟩
theorem Zu2 {u:Tm} (hu:u.fit):∀ (ts:List Tm) (i:Nat),Tm.fits ts→Tm.fits (ts.set i u)
 | [],_,h=>h
 | t :: ts,0,h=>⟨hu,h.2⟩
 | t :: ts,i+1,h=>⟨h.1,Zu2 hu ts i h.2⟩
theorem Zle (u:Tm):∀ (ts:List Tm) (i:Nat) (h:i<ts.length),Tm.sizes (ts.set i u)+(ts[i]).size=Tm.sizes ts+u.size
 | t :: ts,0,_=>by simp only [List.set_cons_zero,Tm.sizes,List.getElem_cons_zero];omega
 | t :: ts,i+1,h=>by simp only [List.set_cons_succ,Tm.sizes,List.getElem_cons_succ];have:=Zle u ts i (by simpa using h);omega
theorem Yb8:∀ (p:List Int) (t u v:Tm),t.atP p=some v→t.fit→u.fit→(t.putP p u).fit∧(t.putP p u).size+v.size=t.size+u.size
 | [],t,u,v,h,ht,hu=>by rw [Tm.atP] at h;cases h;rw [Tm.putP];exact ⟨hu,by omega⟩
 | n :: p,t,u,v,h,ht,hu=>by
  rw [Tm.atP] at h
  split at h
  ·cases h
  split at h
  ·rename_i h1 h2
   have hm:=List.getElem_mem h2
   have hg:t.args.getD n.toNat zeroT=t.args[n.toNat]:=by simp [List.getD,h2]
   obtain ⟨a1,a2⟩:=Yb8 p _ u v h (Zca (Zcx ht) _ hm) hu
   rw [Tm.putP,hg]
   refine ⟨⟨Zj2 ht,Zu2 a1 _ _ (Zcx ht)⟩,?_⟩
   have h3:=Zle ((t.args[n.toNat]).putP p u) t.args n.toNat h2
   have h4:=Zay t
   rw [Tm.size]
   omega
  ·cases h
theorem Ylj {c:List Li} {i:Nat} {u:Un} (h:u∈uOf c i):∃ l:Li,[l]=c∧((u.l=l.l∧u.r=l.r)∨(u.l=l.r∧u.r=l.l)):=by
 unfold uOf at h
 split at h
 ·split at h
  ·cases h
  ·simp only [List.mem_cons,List.not_mem_nil,or_false] at h
   rcases h with rfl | rfl
   ·exact ⟨_,rfl, .inl ⟨rfl,rfl⟩⟩
   ·exact ⟨_,rfl, .inr ⟨rfl,rfl⟩⟩
 ·cases h
theorem Zuc {u:Un}:∀ (es:List (List Li)) (i:Nat),u∈rawU es i→∃ l:Li,[l]∈es∧((u.l=l.l∧u.r=l.r)∨(u.l=l.r∧u.r=l.l))
 | [],i,h=>by rw [rawU] at h;cases h
 | c :: es,i,h=>by
  rw [rawU] at h
  rcases List.mem_append.1 h with h | h
  ·obtain ⟨l,h1,h2⟩:=Ylj h
   exact ⟨l,by simp [h1],h2⟩
  ·obtain ⟨l,h1,h2⟩:=Zuc es (i+1) h
   exact ⟨l,List.mem_cons_of_mem _ h1,h2⟩
theorem Zt6 {es:List (List Li)} {u:Un} (h:u∈unitsOf es):∃ l:Li,[l]∈es∧((u.l=l.l∧u.r=l.r)∨(u.l=l.r∧u.r=l.l)):=by
 unfold unitsOf at h
 exact Zuc es 0 (List.mem_filter.1 h).1
theorem Zv0:∀ (es:List (List Li)) (i:Nat),(rawU es i).length≤2*es.length
 | [],_=>by rw [rawU];exact Nat.le_refl _
 | c :: es,i=>by
  rw [rawU,List.length_append]
  have:=Yjq c i
  have:=Zv0 es (i+1)
  simp only [List.length_cons];omega
theorem Zkt (es:List (List Li)):(unitsOf es).length≤2*es.length:=by
 have:=Zv0 es 0
 have h2:(unitsOf es).length≤(rawU es 0).length:=List.length_filter_le _ _
 omega
theorem Zgn {g:List Sy}:∀ {l:List (List Li)},wrongL g l=0→∀ c∈l,clauseCheck g c=0
 | [],_,c,hc=>by cases hc
 | a :: l,h,c,hc=>by
  rw [wrongL] at h
  split at h
  ·rename_i h1;exact absurd h h1
  ·rename_i h1
   rcases List.mem_cons.1 hc with rfl | hc
   ·simpa using h1
   ·exact Zgn h c hc
def fitC (c:List Li):Prop:=∀ l∈c,l.l.fit∧l.r.fit
theorem Zx4 {g:List Sy} {es:List (List Li)} (hc:∀ c∈es,clauseCheck g c=0) (hf:∀ c∈es,fitC c) {u:Un} (h:u∈unitsOf es):rtT g u.l∧rtT g u.r:=by
 obtain ⟨l,h1,h2⟩:=Zt6 h
 have h3:=Ze0 (g:=g) (c:=[l]) ⟨hc _ h1,hf _ h1⟩ (List.mem_singleton.2 rfl)
 rcases h2 with ⟨e1,e2⟩ | ⟨e1,e2⟩
 ·rw [e1,e2];exact h3
 ·rw [e1,e2];exact ⟨h3.2,h3.1⟩
theorem Zs7 {c:List Li} {s:Spo} {i:Nat} (h:i<c.length) (hi:s.i=i) (u:Tm):putC c s u=c.set i (c[i].putS s.rt ((c[i].side s.rt).putP s.p u)):=by
 have:s.i.toNat=i:=by omega
 unfold putC
 rw [this,List.getElem?_eq_getElem h]
theorem Ztg {g:List Sy} {c:List Li} (hc:rtC g c) {s:Spo} (hs:s∈spotsF c 0) {u:Tm} (hu:u.fit):fitC (putC c s u)∧∀ l∈putC c s u,l.l.size≤400+u.size∧l.r.size≤400+u.size:=by
 obtain ⟨j,hj,h1,h2,h3⟩:=Zcv c 0 s hs
 rw [Nat.zero_add] at h1
 have hm:=List.getElem_mem hj
 have hsd:=Zgz hc hm s.rt
 obtain ⟨p1,p2⟩:=Yb8 s.p _ u s.t h2 hsd.2 hu
 have hss:=(Zcg hsd).2
 have hpos:=Zdk s.t
 rw [Zs7 hj h1]
 have key:∀ l∈c.set j (c[j].putS s.rt ((c[j].side s.rt).putP s.p u)),(l.l.fit∧l.r.fit)∧l.l.size≤400+u.size∧l.r.size≤400+u.size:=fun l hl=>by
  rcases List.mem_or_eq_of_mem_set hl with hl | rfl
  ·obtain ⟨a1,a2⟩:=Ze0 hc hl
   have b1:=(Zcg a1).2
   have b2:=(Zcg a2).2
   exact ⟨⟨a1.2,a2.2⟩,by omega,by omega⟩
  ·obtain ⟨a1,a2⟩:=Ze0 hc hm
   have b1:=(Zcg a1).2
   have b2:=(Zcg a2).2
   unfold Li.putS
   split
   ·exact ⟨⟨a1.2,p1⟩,by simp only;omega,by simp only;omega⟩
   ·exact ⟨⟨p1,a2.2⟩,by simp only;omega,by simp only;omega⟩
 exact ⟨fun l hl=>(key l hl).1,fun l hl=>(key l hl).2⟩
def stepP (g:List Sy) (us:List Un) (c:List Li):List Li×Int×Bool×Int:=stepF g (TT g c) us c
theorem Zuw (g:List Sy) (us:List Un) (c:List Li) (hul:us.length<1000000) (hu:∀ u∈us,rtT g u.l∧rtT g u.r) (hc:rtC g c) :
  CallEq Tryz.prog 26 [.ps 4 (syms g), .ps 5 (uns us), .ps 5 (lits c)] (.tup [.ps 5 (lits (stepP g us c).1), .int .i64 (stepP g us c).2.1, .bool (stepP g us c).2.2.1, .int .i64 (stepP g us c).2.2.2]):=by
 obtain ⟨hsig,hcl,_⟩:=Zgi hc.1
 have hsp:∀ s∈spotsF c 0,tmOk g s.t∧smT s.t∧c≠[]:=fun s hs=>by
  obtain ⟨j,hj,h1,h2,h3⟩:=Zcv c 0 s hs
  have hsd:=Zgz hc (List.getElem_mem hj) s.rt
  exact ⟨Zjx (Ya4 g) _ _ _ (Yig hsd) h2,Zjx Zj5 _ _ _ (Zcg hsd) h2,by rintro rfl;simp at hj⟩
 have htt:∀ u∈us, ∀ s∈spotsF c 0,(TT g c u s).1.fit∧(TT g c u s).1.size≤160000:=fun u hu' s hs=>Zv4 (hu u hu').2 (hsp s hs).2.1
 refine Yf7 g us c (TT g c) hul (by omega) (fun l hl=>?_) (fun u hu' s hs=>?_) (fun u hu' s hs=>?_) (fun u hu' s hs _=>?_)
 ·obtain ⟨a1,a2⟩:=Ze0 hc hl
  exact ⟨(Zcg a1).2,(Zcg a2).2⟩
 ·obtain ⟨h1,h2,h3⟩:=hsp s hs
  exact Yg3 g hsig u s.t c (hu u hu').1 (hu u hu').2 h1 h2 h3 (by omega) (Yeu hc)
 ·obtain ⟨j,hj,h1,h2,h3⟩:=Zcv c 0 s hs
  have hsd:=(Zcg (Zgz hc (List.getElem_mem hj) s.rt)).2
  exact Ym3 c s _ s.t j hj (by rw [h1];simp) h2 (by omega) (by omega) (by omega)
 ·obtain ⟨h1,h2⟩:=htt u hu' s hs
  have h3:=(Ztg hc hs h1).2
  exact Zhr g _ (fun i hi=>by have:=h3 _ (List.getElem_mem hi);omega)
theorem Zhs {T:Un→Spo→Tm×Bool} {s:Spo} {x:Un×Tm}:∀ {us:List Un},firstU T s us=some x→x.1∈us∧x.2=(T x.1 s).1∧(T x.1 s).2=true
 | [],h=>by rw [firstU] at h;cases h
 | u :: us,h=>by
  rw [firstU] at h
  split at h
  ·rename_i h1;cases h;exact ⟨by simp,rfl,h1⟩
  ·obtain ⟨a1,a2⟩:=Zhs h
   exact ⟨List.mem_cons_of_mem _ a1,a2⟩
theorem Zn9 {g:List Sy} {us:List Un} {c:List Li} (hu:∀ u∈us,rtT g u.l∧rtT g u.r) (hc:rtC g c) (h0:(stepP g us c).2.2.2=0):rtC g (stepP g us c).1:=by
 unfold stepP stepF at h0 ⊢
 rcases Zdr (TT g c) us (spotsF c 0) with ⟨f1,_⟩ | ⟨k,hk,x,f1,f2,_⟩
 ·rw [f1];exact hc
 ·rw [f1] at h0 ⊢
  simp only at h0 ⊢
  split
  ·rename_i h1
   obtain ⟨m1,m2,_⟩:=Zhs f2
   have hs:=List.getElem_mem hk
   obtain ⟨j,hj,g1,g2,g3⟩:=Zcv c 0 _ hs
   have hsm:=Zjx Zj5 _ _ _ (Zcg (Zgz hc (List.getElem_mem hj) _)) g2
   refine ⟨h1,?_⟩
   rw [m2]
   exact (Ztg hc hs (Zv4 (c:=c) (hu _ m1).2 hsm).1).1
  ·rename_i h1
   rw [if_neg h1] at h0
   exact absurd h0 h1
end Go.Proofs
namespace Go.Proofs
open Go Go.Abs
attribute [local go_sem] Nat.reduceAdd Nat.reduceSub Nat.reduceMul Nat.reduceLeDiff Nat.reduceEqDiff Nat.reduceBEq Nat.reduceLT Nat.le_refl Int.natCast_zero Nat.sub_zero List.length_map Int.toNat_natCast Int.natCast_one Int.reduceEq Int.reduceLT Int.reduceLE Int.reduceNe Int.sub_zero Int.zero_add Int.toNat_one
def stepX (g:List Sy) (es:List (List Li)) (c:List Li):List Li×Int×Bool×Int:=if wrongL g (c :: es)≠0 then ([],0,false,wrongL g (c :: es)) else stepP g (unitsOf es) c
def normX (g:List Sy) (es:List (List Li)) (c:List Li):List Li×List Int×Int:=normalF (wrongL g (c :: es)) (stepP g (unitsOf es)) c
def inX (es:List (List Li)) (c:List Li):Prop:=es.length<400000∧∀ x∈c :: es,smallC x∧fitC x
theorem Zic {g:List Sy} {es:List (List Li)} {c:List Li} (h:inX es c) (hw:wrongL g (c :: es)=0):rtC g c∧(∀ u∈unitsOf es,rtT g u.l∧rtT g u.r)∧∀ x∈es,okC x:=by
 have hw:=Zgn hw
 have h1:∀ x∈es,rtC g x:=fun x hx=>⟨hw x (by simp [hx]),(h.2 x (by simp [hx])).2⟩
 refine ⟨⟨hw c (by simp),(h.2 c (by simp)).2⟩,fun u hu=>Zx4 (g:=g) (fun x hx=>(h1 x hx).1) (fun x hx=>(h1 x hx).2) hu,fun x hx l hl=>?_⟩
 obtain ⟨a1,a2⟩:=Ze0 (h1 x hx) hl
 have b1:=Zcg a1
 have b2:=Zcg a2
 exact ⟨⟨b1.1,by have:=b1.2;omega⟩,b2.1,by have:=b2.2;omega⟩
theorem Yf0 (g:List Sy) (es:List (List Li)) (c:List Li) (h:inX es c) :
  CallEq Tryz.prog 9 [.ps 4 (syms g), .ps 1 (clsA es), .ps 5 (lits c)] (.tup [.ps 5 (lits (stepX g es c).1), .int .i64 (stepX g es c).2.1, .bool (stepX g es c).2.2.1, .int .i64 (stepX g es c).2.2.2]):=by
 refine CallEq.begin (rs:=[.tmp 6, .tmp 7, .tmp 8, .tmp 9]) (m:=24) 1000 Tryz.func9 rfl rfl rfl (by decide) ⟨Za3 _,trivial,trivial,trivial,trivial⟩ ?_
 have hW:=Zps g es c (fun x hx=>(h.2 x hx).1) (by have:=h.1;omega)
 unfold stepX
 simp only [go_sem]
 refine VCall.isoT [] hW (Za1 _ _ _) ⟨Za5 _,Zav _,Za3 _,trivial⟩ ?_
 simp only [flatR,flatA,flatC,if_true]
 refine EvK.go 1000 ?_
 by_cases h0:wrongL g (c :: es)=0
 ·obtain ⟨r1,r2,r3⟩:=Zic h h0
  have hU:=Zoz es (by have:=h.1;omega) r3
  have hlen:=Zkt es
  have hS:=Zuw g (unitsOf es) c (by have:=h.1;omega) r2 r1
  rw [if_neg (by simp [h0])]
  generalize stepP g (unitsOf es) c=z at *
  simp only [go_sem,h0]
  refine VCall.isoT [] hU (Za1 _ _ _) ⟨Zav _,trivial⟩ ?_
  rw [Zah];simp only [ite_self]
  refine EvK.go 1000 ?_
  simp only [go_sem]
  refine VCall.isoT [] hS (Za1 _ _ _) ⟨Za5 _,Zbp _,Za3 _,trivial⟩ ?_
  rw [Zah];simp only [ite_self]
  refine EvK.go 1000 ?_
  simp only [go_sem]
 ·rw [if_pos h0]
  simp only [go_sem,h0]
  rfl
theorem Ztn (g:List Sy) (es:List (List Li)) (c:List Li) (h:inX es c) :
  CallEq Tryz.prog 13 [.ps 4 (syms g), .ps 1 (clsA es), .ps 5 (lits c)] (.tup [.ps 5 (lits (normX g es c).1), .ps 1 (ints (normX g es c).2.1), .int .i64 (normX g es c).2.2]):=by
 have hlen:=Zkt es
 exact Zza g es (unitsOf es) c (wrongL g (c :: es)) (stepP g (unitsOf es)) (fun d=>wrongL g (c :: es)=0∧rtC g d)
  (Zps g es c (fun x hx=>(h.2 x hx).1) (by have:=h.1;omega)) (fun h0=>Zoz es (by have:=h.1;omega) (Zic h h0).2.2) (fun h0=>⟨h0,(Zic h h0).1⟩)
  (fun d hd e _=>⟨hd.1,Zn9 (Zic h hd.1).2.1 hd.2 e⟩) (fun d hd=>Zuw g (unitsOf es) d (by have:=h.1;omega) (Zic h hd.1).2.1 hd.2)
theorem Yla (n:Int) (hn : -1000000≤n∧n≤1000000):CallEq Tryz.prog 30 [.int .i64 n] (Tm.mk (-1 - n) []).toA:=by
 refine CallEq.begin (rs:=[.cell 2 48]) (m:=5) 1000 Tryz.func30 rfl rfl rfl (by decide) (Za7 _) ?_
 have hw:IntKind.i64.wrap (-1 - n) = -1 - n:=Zab (by omega)
 simp only [go_sem,hw,Za6]
 exact ⟨rfl,rfl⟩
theorem Znh (n:Int) (ts:List Tm):CallEq Tryz.prog 31 [.int .i64 n, .ps 2 (ts.map Tm.toA)] (Tm.mk n ts).toA:=by
 refine CallEq.begin (rs:=[.cell 4 48]) (m:=6) 1000 Tryz.func31 rfl rfl rfl (by decide) (Za7 _) ?_
 simp only [go_sem,Za6]
 exact ⟨rfl,Za1 _ _ _⟩
def ordI (a b:Int):Int:=if a<b then -1 else if b<a then 1 else 0
theorem Zss {a b:Int} (h:a≠b):ordI a b≠0:=by unfold ordI;split<;>(try split)<;>omega
theorem Zkl (a b:Int):CallEq Tryz.prog 138 [.int .i64 a, .int .i64 b] (.int .i64 (ordI a b)):=by
 refine CallEq.begin (rs:=[.tmp 4]) (m:=9) 1000 Tryz.func138 rfl rfl rfl (by decide) trivial ?_
 unfold ordI
 by_cases h1:a<b
 ·simp only [go_sem,h1]
 ·by_cases h2:b<a
  ·simp only [go_sem,h1,h2]
  ·simp only [go_sem,h1,h2]
mutual
def Tm.cmp:Tm→Tm→Int
 | .mk h ts,u=>if ((Tm.mk h ts).size:Int)≠u.size then ordI (Tm.mk h ts).size u.size else if h≠u.head then ordI h u.head else if (ts.length:Int)≠u.args.length then ordI ts.length u.args.length else Tm.cmpA ts u.args
def Tm.cmpA:List Tm→List Tm→Int
 | [],_=>0
 | _ :: _,[]=>0
 | t :: ts,u :: us=>if t.cmp u≠0 then t.cmp u else Tm.cmpA ts us
end
mutual
theorem Yiv:∀ t u:Tm,t.cmp u=0↔t=u
 | .mk h ts, .mk k us=>by
  rw [Tm.cmp]
  by_cases h1:((Tm.mk h ts).size:Int)=(Tm.mk k us).size
  ·rw [if_neg (by simpa using h1)]
   by_cases h2:h=k
   ·subst h2
    rw [if_neg (by simp [Tm.head])]
    by_cases h3:(ts.length:Int)=us.length
    ·rw [if_neg (by simpa [Tm.args] using h3)]
     rw [show (Tm.mk h us).args=us from rfl,Zy4 ts us (by omega)]
     simp
    ·rw [if_pos (by simpa [Tm.args] using h3)]
     refine ⟨fun e=>absurd e (Zss (by simpa [Tm.args] using h3)),fun e=>?_⟩
     cases e;exact absurd rfl h3
   ·rw [if_pos (by simpa [Tm.head] using h2)]
    refine ⟨fun e=>absurd e (Zss (by simpa [Tm.head] using h2)),fun e=>?_⟩
    cases e;exact absurd rfl h2
  ·rw [if_pos (by simpa using h1)]
   refine ⟨fun e=>absurd e (Zss h1),fun e=>?_⟩
   rw [e] at h1;exact absurd rfl h1
theorem Zy4:∀ ts us:List Tm,ts.length=us.length→(Tm.cmpA ts us=0↔ts=us)
 | [],[],_=>by simp [Tm.cmpA]
 | t :: ts,u :: us,hl=>by
  rw [Tm.cmpA]
  have h1:=Yiv t u
  have h2:=Zy4 ts us (by simpa using hl)
  by_cases h3:t.cmp u=0
  ·rw [if_neg (by simp [h3]),h2,h1.1 h3];simp
  ·rw [if_pos h3]
   refine ⟨fun e=>absurd e h3,fun e=>?_⟩
   cases e;exact absurd (h1.2 rfl) h3
end
theorem Zsv (t:Tm):∀ u:Tm,t.size<2 ^ 62→u.size<2 ^ 62→CallEq Tryz.prog 99 [t.toA,u.toA] (.int .i64 (t.cmp u)):=by
 induction t using Tm.rec_args with
 | h h ts ih =>
 intro u hs hu
 obtain ⟨k,us,rfl⟩:∃ k us,u=Tm.mk k us:=⟨u.head,u.args,by cases u;rfl⟩
 have hst:=Zrg (Tm.mk h ts) hs
 have hsu:=Zrg (Tm.mk k us) hu
 have hlt:=Zaj ts
 have hlu:=Zaj us
 have hsz:(Tm.mk h ts).size=1+Tm.sizes ts:=rfl
 have hsz2:(Tm.mk k us).size=1+Tm.sizes us:=rfl
 refine CallEq.begin (rs:=[.tmp 4]) (m:=60) 1000 Tryz.func99 rfl rfl rfl (by decide) trivial ?_
 rw [Tm.cmp,show (Tm.mk k us).args=us from rfl,show (Tm.mk k us).head=k from rfl]
 generalize (Tm.mk h ts).size=n1 at *
 generalize (Tm.mk k us).size=n2 at *
 simp only [go_sem,Za8,Tm.head,Tm.args]
 refine EvK.draw [] 2 2 mixed rfl rfl (by decide) ?_
 simp only [go_sem,padS]
 refine Zar (hst) (by (try simp only [Za6]);exact Za1 _ _ _) (by simp [go_sem,Za7,Za0]) ?_
 simp only [go_sem]
 refine Zar (hsu) (by (try simp only [Za6]);exact Za1 _ _ _) (by simp [go_sem,Za7,Za0]) ?_
 simp only [go_sem]
 refine EvK.go 1000 ?_
 by_cases c1:(n1:Int)=n2
 ·rw [if_neg (by simpa using c1)]
  by_cases c2:h=k
  ·rw [if_neg (fun e=>e c2)]
   by_cases c3:(ts.length:Int)=us.length
   ·rw [if_neg (fun e=>e c3)]
    obtain ⟨Z,hZ⟩:∃ Z,Tm.cmpA ts us=Z:=⟨_,rfl⟩
    rw [hZ]
    simp only [go_sem,c1,c2,c3,Tm.head,Tm.args]
    refine EvK.loopI (ι:={i:Nat // i≤ts.length∧Tm.cmpA (ts.drop i) (us.drop i)=Z}) 1000 (fun q=>mkT 62 [(2, .ptr 0 0),(3, .ptr 1 0),(4, .int .i64 0),(5, .int .i64 q.1)])
     (fun _=>[some (.var [.int .i64 h, .ps 2 (ts.map Tm.toA)]),some (.var [.int .i64 k, .ps 2 (us.map Tm.toA)])]) (fun q=>ts.length - q.1) ⟨0,by omega,by simpa using hZ⟩ ?_ (fun _=>by simp) ?_
    ·simp only [go_sem,Za0,c2]
    ·rintro ⟨i,hi,hpre⟩
     by_cases hlt:(i:Int)<ts.length
     ·have hlt':i<ts.length:=by omega
      have hltu:i<us.length:=by omega
      have hltu':(i:Int)<us.length:=by omega
      have hw:IntKind.i64.wrap ((i:Int)+1)=((i+1:Nat):Int):=by rw [Zab (by omega)];omega
      have g1:(ts.map Tm.toA).getD i .undef=ts[i].toA:=Zaq hlt'
      have g2:(us.map Tm.toA).getD i .undef=us[i].toA:=Zaq hltu
      have z1:=Zb2 ts i hlt'
      have z2:=Zb2 us i hltu
      have hc:=ih i hlt' us[i] (by omega) (by omega)
      rw [List.drop_eq_getElem_cons hlt',List.drop_eq_getElem_cons hltu,Tm.cmpA] at hpre
      generalize ts[i]=x at *
      generalize us[i]=y at *
      simp only [go_sem,hlt]
      refine EvK.draw [] 2 2 mixed rfl rfl (by decide) ?_
      simp only [go_sem,padS,g1,g2,Za8,hlt,hltu']
      (repeat ((with_reducible refine And.intro ?_ ?_); ·omega))
      refine Zar (hc) (by (try simp only [Za6]);exact Za1 _ _ _) (by simp [go_sem,Za7,Za0]) ?_
      simp only [go_sem]
      refine EvK.go 1000 ?_
      by_cases c4:x.cmp y=0
      ·rw [if_neg (by simp [c4])] at hpre
       simp only [go_sem,c4,hw]
       refine ⟨⟨i+1,by omega,hpre⟩,?_,by simp only;omega⟩
       simp only [go_sem,Za0]
      ·rw [if_pos c4] at hpre
       simp only [go_sem,c4]
       refine EvK.go 1000 ?_
       simp only [go_sem,hpre]
     ·have hi':i=ts.length:=by omega
      subst hi'
      rw [List.drop_length,Tm.cmpA] at hpre
      simp only [go_sem,hlt]
      refine EvK.go 1000 ?_
      simp only [go_sem,hpre]
   ·rw [if_pos c3]
    simp only [go_sem,c1,c2,c3,Tm.head,Tm.args]
    refine VCall.isoT [] (Zkl ts.length us.length) (by (try simp only [Za6]);exact Za1 _ _ _) (by simp [go_sem,Za7,Za0]) ?_;simp only [flatR,flatA,flatC,if_true];refine EvK.go 1000 ?_
    simp only [go_sem]
  ·rw [if_pos c2]
   simp only [go_sem,c1,c2,Tm.head,Tm.args]
   refine VCall.isoT [] (Zkl h k) (by (try simp only [Za6]);exact Za1 _ _ _) (by simp [go_sem,Za7,Za0]) ?_;simp only [flatR,flatA,flatC,if_true];refine EvK.go 1000 ?_
   simp only [go_sem]
 ·rw [if_pos c1]
  simp only [go_sem,c1]
  refine EvK.draw [] 2 2 mixed rfl rfl (by decide) ?_
  simp only [go_sem,padS]
  refine Zar (hst) (by (try simp only [Za6]);exact Za1 _ _ _) (by simp [go_sem,Za7,Za0]) ?_
  simp only [go_sem]
  refine Zar (hsu) (by (try simp only [Za6]);exact Za1 _ _ _) (by simp [go_sem,Za7,Za0]) ?_
  simp only [go_sem]
  refine Zar (Zkl n1 n2) (by (try simp only [Za6]);exact Za1 _ _ _) (by simp [go_sem,Za7,Za0]) ?_
  simp only [go_sem]
  refine EvK.go 1000 ?_
  simp only [go_sem]
theorem Zux (t u:Tm) (ht:t.size<2 ^ 62) (hu:u.size<2 ^ 62):CallEq Tryz.prog 62 [t.toA,u.toA] (.bool (decide (t=u))):=by
 have hc:=Zsv t u ht hu
 have he:=Yiv t u
 refine CallEq.begin (rs:=[.tmp 4]) (m:=7) 1000 Tryz.func62 rfl rfl rfl (by decide) trivial ?_
 simp only [go_sem,Za8]
 refine VCall.isoT [] (hc) (by (try simp only [Za6]);exact Za1 _ _ _) (by simp [go_sem,Za7,Za0]) ?_;simp only [flatR,flatA,flatC,if_true];refine EvK.go 1000 ?_
 by_cases h:t=u
 ·subst h
  simp only [go_sem,he.2 rfl,decide_true]
 ·simp only [go_sem,show ¬ t.cmp u=0 from fun e=>h (he.1 e),h,decide_false]
def Li.eqb (a b:Li):Bool:=decide (a.neg=b.neg)&&(decide (a.l=b.l)&&decide (a.r=b.r))
theorem Ynn {a b:Li}:a.eqb b=true↔a=b:=by
 cases a;cases b;simp [Li.eqb]
theorem Zxb (a b:Li) (ha:a.l.size<2 ^ 62∧a.r.size<2 ^ 62) (hb:b.l.size<2 ^ 62∧b.r.size<2 ^ 62):CallEq Tryz.prog 34 [a.toA,b.toA] (.bool (a.eqb b)):=by
 have h1:=Zux a.l b.l ha.1 hb.1
 have h2:=Zux a.r b.r ha.2 hb.2
 refine CallEq.begin (rs:=[.tmp 4]) (m:=22) 1000 Tryz.func34 rfl rfl rfl (by decide) trivial ?_
 unfold Li.eqb
 simp only [go_sem,Zaw]
 by_cases c1:a.neg=b.neg
 ·have c1':(a.neg==b.neg)=true:=by simp [c1]
  simp only [go_sem,c1',c1,decide_true,Bool.true_and]
  refine VCall.isoT [] (h1) (by (try simp only [Za6]);exact Za1 _ _ _) (by simp [go_sem,Za7,Za0]) ?_;simp only [flatR,flatA,flatC,if_true];refine EvK.go 1000 ?_
  by_cases c2:a.l=b.l
  ·simp only [go_sem,c2,decide_true,Bool.true_and]
   refine VCall.isoT [] (h2) (by (try simp only [Za6]);exact Za1 _ _ _) (by simp [go_sem,Za7,Za0]) ?_;simp only [flatR,flatA,flatC,if_true];refine EvK.go 1000 ?_
   simp only [go_sem]
  ·simp only [go_sem,c2,decide_false,Bool.false_and]
 ·have c1':(a.neg==b.neg)=false:=by simp [c1]
  simp only [go_sem,c1',c1,decide_false,Bool.false_and]
def eqbC:List Li→List Li→Bool
 | [],[]=>true
 | a :: c,b :: d=>a.eqb b&&eqbC c d
 | _,_=>false
theorem Zmi:∀ c d:List Li,eqbC c d=true↔c=d
 | [],[]=>by simp [eqbC]
 | [],_ :: _=>by simp [eqbC]
 | _ :: _,[]=>by simp [eqbC]
 | a :: c,b :: d=>by simp [eqbC,Ynn,Zmi c d]
def sizC (c:List Li):Prop:=∀ l∈c,l.l.size<2 ^ 62∧l.r.size<2 ^ 62
theorem Yco {a b:List Li} (h:a.length=b.length) {i:Nat} (h1:i<a.length) (h2:i<b.length):eqbC (a.drop i) (b.drop i)=(a[i].eqb b[i]&&eqbC (a.drop (i+1)) (b.drop (i+1))):=by
 rw [List.drop_eq_getElem_cons h1,List.drop_eq_getElem_cons h2,eqbC]
theorem Zrb (a b:List Li) (ha:sizC a) (hb:sizC b) (hl:a.length<2 ^ 62):CallEq Tryz.prog 12 [.ps 5 (lits a), .ps 5 (lits b)] (.bool (eqbC a b)):=by
 refine CallEq.begin (rs:=[.tmp 4]) (m:=25) 1000 Tryz.func12 rfl rfl rfl (by decide) trivial ?_
 obtain ⟨Z,hZ⟩:∃ Z,eqbC a b=Z:=⟨_,rfl⟩
 rw [hZ]
 by_cases c1:(a.length:Int)=b.length
 ·simp only [go_sem,Zaf,c1]
  refine EvK.loopI (ι:={i:Nat // i≤a.length∧eqbC (a.drop i) (b.drop i)=Z}) 1000 (fun q=>mkT 27 [(0, .ps 5 (lits a)),(1, .ps 5 (lits b)),(4, .bool false),(5, .int .i64 q.1)])
   (fun _=>[]) (fun q=>a.length - q.1) ⟨0,by simpa using hZ⟩ ?_ (fun _=>Nat.zero_le _) ?_
  ·simp only [go_sem,Za3]
  ·rintro ⟨i,hi,hpre⟩
   by_cases hlt:(i:Int)<a.length
   ·have hlt':i<a.length:=by omega
    have hltb:i<b.length:=by omega
    have hltb':(i:Int)<b.length:=by omega
    have hw:IntKind.i64.wrap ((i:Int)+1)=((i+1:Nat):Int):=by rw [Zab (by omega)];omega
    have g1:=Zc6 hlt'
    have g2:=Zc6 hltb
    have hc:=Zxb a[i] b[i] (ha _ (List.getElem_mem hlt')) (hb _ (List.getElem_mem hltb))
    rw [Yco (by omega) hlt' hltb] at hpre
    generalize a[i]=x at *
    generalize b[i]=y at *
    simp only [go_sem,Zaf,hlt]
    refine EvK.draw [] 0 0 mixed rfl rfl (by decide) ?_
    simp only [go_sem,padS,g1,g2,Zaw,hlt,hltb',Zaf]
    (repeat ((with_reducible refine And.intro ?_ ?_); ·omega))
    refine Zar hc (Za1 _ _ _) ⟨Zcp _,Zcp _,trivial⟩ ?_
    simp only [go_sem]
    refine EvK.go 1000 ?_
    cases c4:x.eqb y with
    | true =>
     rw [c4,Bool.true_and] at hpre
     simp only [go_sem,hw]
     refine ⟨⟨i+1,by omega,hpre⟩,?_,by simp only;omega⟩
     simp only [go_sem,Za3]
    | false =>
     rw [c4,Bool.false_and] at hpre
     simp only [go_sem]
     refine EvK.go 1000 ?_
     simp only [go_sem,hpre]
   ·have hi':i=a.length:=by omega
    subst hi'
    have:b.drop a.length=[]:=List.drop_eq_nil_of_le (by omega)
    rw [List.drop_length,this,eqbC] at hpre
    subst hpre
    simp only [go_sem,Zaf,hlt]
    refine EvK.go 1000 ?_
    simp only [go_sem]
 ·have:Z=false:=by
   rw [← hZ,← Bool.not_eq_true,Zmi]
   rintro rfl;exact c1 rfl
  rw [this]
  simp only [go_sem,Zaf,c1]
def cntB (m:Int):List Tm→Int→Int
 | [],n=>n
 | t :: ts,n=>if n≤m then cntB m ts (n+t.cnt m) else n
theorem Zm1 {m:Int} (hm : 0≤m):∀ (ts:List Tm) (n:Int),0≤n→n≤2*m+1→0≤cntB m ts n∧(cntB m ts n≤m→cntB m ts n=n+Tm.sizes ts)
 | [],n,h,_=>⟨by simp [cntB,h],fun _=>by simp [cntB,Tm.sizes]⟩
 | t :: ts,n,h,h2=>by
  have hb:=Zct t m hm
  simp only [cntB]
  split
  ·obtain ⟨h3,h4⟩:=Zm1 hm ts (n+t.cnt m) (by omega) (by omega)
   refine ⟨h3,fun h5=>?_⟩
   have h6:=h4 h5
   have h7:=Zkg t m hm (by
    have:(0:Int)≤Tm.sizes ts:=by omega
    omega)
   simp only [Tm.sizes];omega
  ·exact ⟨h,fun h5=>by omega⟩
def fewC (c:List Li):Bool:=decide (cntB 80 (sides c) 0≤80)&&decide (c.length≤8)
theorem Yab (c:List Li) (hc:c.length≤2600000000000):CallEq Tryz.prog 24 [.ps 5 (lits c)] (.bool (fewC c)):=by
 refine CallEq.begin (rs:=[.tmp 2]) (m:=31) 1000 Tryz.func24 rfl rfl rfl (by decide) trivial ?_
 simp only [go_sem]
 refine VCall.isoT [] (Zm6 c hc) (Za1 _ _ _) ⟨Za3 _,trivial⟩ ?_
 rw [Zah];simp only [ite_self]
 refine EvK.go 1000 ?_
 have hsl:=Zh4 c
 have hF:fewC c=(decide (cntB 80 (sides c) 0≤80)&&decide (c.length≤8)):=rfl
 rw [hF]
 generalize sides c=ts at *
 simp only [go_sem]
 refine EvK.loopI (ι:={p:Nat×Int // p.1≤ts.length∧0≤p.2∧p.2≤161∧cntB 80 (ts.drop p.1) p.2=cntB 80 ts 0}) 1000 (fun p=>mkT 32 [(0, .ps 5 (lits c)),(2, .bool false),(3, .int .i64 p.1.2),(4, .ps 2 (ts.map Tm.toA)),(5, .int .i64 p.1.1)]) (fun _=>[]) (fun p=>ts.length - p.1.1) ⟨(0,0),by simp⟩ ?_ (fun _=>Nat.zero_le _) ?_
 ·simp only [go_sem,Za0,Za3]
 ·rintro ⟨⟨i,n⟩,hi,h1,h2,h3⟩
  simp only at hi h1 h2 h3
  by_cases hlt:(i:Int)<ts.length
  ·have hlt':i<ts.length:=by omega
   by_cases hn:n≤80
   ·simp only [go_sem,List.length_map,hlt,hn,Zaq hlt',Za8]
    refine ⟨by omega,?_⟩
    refine VCall.isoT [] (Zuf ts[i] 80 (by omega) (by omega)) (by (try simp only [Za6]);exact Za1 _ _ _) (by simp [go_sem,Za7,Za0]) ?_;simp only [flatR,flatA,flatC,if_true];refine EvK.go 1000 ?_
    simp only [go_sem]
    have hb:=Zct ts[i] 80 (by omega)
    refine ⟨⟨(i+1,n+ts[i].cnt 80),hlt',by simp only;omega,by simp only;omega,?_⟩,?_,by simp only;omega⟩
    ·simp only
     rw [← h3,List.drop_eq_getElem_cons hlt',cntB,if_pos hn]
    ·simp only [go_sem,Za0,Za3]
     rw [Zab (by omega),Zab (by omega)]
     simp
   ·simp only [go_sem,List.length_map,hlt,hn]
    refine EvK.go 1000 ?_
    have:cntB 80 (ts.drop i) n=n:=by cases ts.drop i<;>simp [cntB,hn]
    rw [← h3,this]
    simp only [go_sem,hn,decide_false,Bool.false_and]
  ·simp only [go_sem,List.length_map,hlt]
   refine EvK.go 1000 ?_
   have:i=ts.length:=by omega
   subst this
   rw [← h3,List.drop_length,cntB]
   by_cases hn:n≤80
   ·simp only [go_sem,hn,decide_true,Bool.true_and,Zaf]
    congr 1
    simp;omega
   ·simp only [go_sem,hn,decide_false,Bool.false_and]
def lenS:List (List Li)→Int→Bool×Int
 | [],n=>(true,n)
 | c :: es,n=>if litsFew c then lenS es (n+c.length) else (false,n)
def fewE (es:List (List Li)):Bool:=decide (es.length≤8)&&((lenS es 0).1&&decide ((lenS es 0).2≤40))
theorem Zyi (es:List (List Li)):CallEq Tryz.prog 23 [.ps 1 (clsA es)] (.bool (fewE es)):=by
 refine CallEq.begin (rs:=[.tmp 2]) (m:=35) 1000 Tryz.func23 rfl rfl rfl (by decide) trivial ?_
 simp only [go_sem]
 by_cases h8:(es.length:Int)≤8
 ·have h8':es.length≤8:=by omega
  refine EvK.loopI (ι:={p:Nat×Int // p.1≤es.length∧0≤p.2∧p.2≤40*p.1∧lenS (es.drop p.1) p.2=lenS es 0}) 1000 (fun p=>mkT 36 [(0, .ps 1 (clsA es)),(2, .bool false),(3, .int .i64 p.1.2),(4, .int .i64 p.1.1)]) (fun _=>[]) (fun p=>es.length - p.1.1) ⟨(0,0),by simp⟩ ?_ (fun _=>Nat.zero_le _) ?_
  ·simp only [go_sem,Zav]
  ·rintro ⟨⟨i,n⟩,hi,h1,h2,h3⟩
   simp only at hi h1 h2 h3
   by_cases hlt:(i:Int)<es.length
   ·have hlt':i<es.length:=by omega
    have hw:IntKind.i64.wrap ((i:Int)+1)=((i+1:Nat):Int):=by rw [Zab (by omega)];omega
    have g1:=Zj8 hlt'
    rw [List.drop_eq_getElem_cons hlt',lenS] at h3
    generalize es[i]=c at *
    simp only [go_sem,Zbi,hlt,h8,g1]
    refine ⟨by omega,?_⟩
    refine VCall.isoT [] (Zxc c) (Za1 _ _ _) (by simp [go_sem,Za3]) ?_;simp only [flatR,flatA,flatC,if_true];refine EvK.go 1000 ?_
    cases hf:litsFew c with
    | true =>
     rw [hf,if_pos rfl] at h3
     have hcl:c.length≤40:=by
      unfold litsFew at hf
      simp only [Bool.and_eq_true,decide_eq_true_eq] at hf
      exact hf.1
     simp only [go_sem,g1,Zaf,Zbi,hlt,h8]
     (repeat ((with_reducible refine And.intro ?_ ?_); ·omega))
     refine ⟨⟨(i+1,n+c.length),hlt',by simp only;omega,by simp only;omega,h3⟩,?_,by simp only;omega⟩
     simp only [go_sem,Zav,hw]
     rw [Zab (by omega)]
    | false =>
     rw [hf,if_neg (by simp)] at h3
     have hF:fewE es=false:=by unfold fewE;rw [← h3];simp
     simp only [go_sem]
     refine EvK.go 1000 ?_
     simp only [go_sem,hF]
   ·simp only [go_sem,Zbi,hlt]
    refine EvK.go 1000 ?_
    have:i=es.length:=by omega
    subst this
    rw [List.drop_length,lenS] at h3
    unfold fewE
    rw [← h3]
    simp only [go_sem,Zbi,h8,h8',decide_true,Bool.true_and]
 ·refine EvK.loopI (ι:=Unit) 1000 (fun p=>mkT 36 [(0, .ps 1 (clsA es)),(2, .bool false),(3, .int .i64 0),(4, .int .i64 0)]) (fun _=>[]) (fun p=>0) () ?_ (fun _=>Nat.zero_le _) ?_
  ·simp only [go_sem,Zav]
  ·rintro ⟨⟩
   have hlt:(0:Int)<es.length:=by omega
   have hF:fewE es=false:=by
    unfold fewE
    rw [show decide (es.length≤8)=false from by simp;omega]
    rfl
   simp only [go_sem,Zbi,hlt,h8]
   refine EvK.go 1000 ?_
   simp only [go_sem,Zbi,h8,hF]
def toyG:List Sy:=[⟨⟨#[36,116,114,117,101]⟩,0,1,true⟩,⟨⟨#[97]⟩,0,1,false⟩,⟨⟨#[102]⟩,1,1,false⟩,⟨⟨#[112]⟩,1,1,true⟩]
theorem Yc8:CallEq Tryz.prog 33 [] (.ps 4 (syms toyG)):=by
 refine CallEq.begin (rs:=[.tmp 0]) (m:=6) 1000 Tryz.func33 rfl rfl rfl (by decide) (Za5 _) ?_
 have e1:syms toyG=[.agg [.str ⟨#[36,116,114,117,101]⟩, .int .i64 0, .int .i64 1, .bool true], .agg [.str ⟨#[97]⟩, .int .i64 0, .int .i64 1, .bool false], .agg [.str ⟨#[102]⟩, .int .i64 1, .int .i64 1, .bool false], .agg [.str ⟨#[112]⟩, .int .i64 1, .int .i64 1, .bool true]]:=rfl
 simp only [go_sem,e1]
def toyX:Tm:=.mk (-1) []
def toyA:Tm:=.mk 1 []
def toyU:List (List Li):=[[⟨false, .mk 2 [toyX],toyX⟩]]
def toyS (t:Tm):List Li:=[⟨false, .mk 3 [t], .mk 0 []⟩]
theorem Yu0:stepX toyG toyU (toyS toyA)=(toyS toyA, -1,false,0):=by kernel_rfl
theorem Yus:normX toyG toyU (toyS (.mk 2 [.mk 2 [toyA]]))=(toyS toyA,[0,0],0):=by kernel_rfl
theorem Zgs (t:Tm):CallEq Tryz.prog 32 [t.toA] (.ps 5 (lits (toyS t))):=by
 refine CallEq.begin (rs:=[.tmp 2]) (m:=8) 1000 Tryz.func32 rfl rfl rfl (by decide) (Za3 _) ?_
 have h1:=Znh 3 [t]
 have h2:=Znh 0 []
 simp only [go_sem,Za8]
 refine VCall.isoT [1] h1 ?_ (by simp [go_sem,Za7]) ?_
 ·simp only [go_sem,Zb1,Zba,List.map_cons,List.map_nil,Za6]
 rw [show flatR (Tm.mk 3 [t]).toA=false from rfl]
 refine EvK.go 1000 ?_
 simp only [go_sem,Zb1,Zba]
 refine VCall.isoT [] h2 ?_ (by simp [go_sem,Za7]) ?_
 ·simp only [go_sem,List.map_nil]
 rw [Zah];simp only [ite_self]
 refine EvK.go 1000 ?_
 have e1:lits (toyS t)=[.agg [.bool false, .int .i64 (Tm.mk 3 [t]).head, .ps 2 ((Tm.mk 3 [t]).args.map Tm.toA), .int .i64 (Tm.mk 0 []).head, .ps 2 ((Tm.mk 0 []).args.map Tm.toA)]]:=rfl
 simp only [go_sem,Za8,e1]
def toyF (t:Tm):Tm:=.mk 2 [t]
theorem Yhf (t:Tm):(toyF t).toA = .agg [.int .i64 2, .ps 2 [.agg [.int .i64 t.head, .ps 2 (t.args.map Tm.toA)]]]:=by
 rw [toyF,Za6,← Za6 t];rfl
theorem Zeh (t:Tm):flatR (toyF t).toA=false:=by rw [Yhf];rfl
theorem Zr1 (t:Tm):CallEq Tryz.prog 31 [.int .i64 2, .ps 2 [t.toA]] (toyF t).toA:=Znh 2 [t]
@[go_sem] theorem Yp1 (t:Tm):(isAggA t.toA=true)=True:=eq_true (by rw [Za6];rfl)
theorem Ybp (l:Li) (h1:l.l.size<1000∧l.r.size<1000) (h2:l.l.fit∧l.r.fit):smallC [l]∧fitC [l]:=by
 refine ⟨fun i h=>?_,fun x hx=>?_⟩
 ·have:i=0:=by simpa using h
  subst this
  simp only [List.getElem_cons_zero];omega
 ·rw [List.mem_singleton.1 hx];exact h2
theorem Zjz:toyX.fit∧toyA.fit∧(toyF toyX).fit∧(toyF (toyF toyA)).fit∧∀ t:Tm,t.fit→(Tm.mk 3 [t]).fit:=by
 refine ⟨?_,?_,?_,?_,fun t h=>?_⟩<;>simp [toyX,toyA,toyF,Tm.fit,Tm.fits,In64]
 exact h
theorem Ykt:∀ x∈toyU,smallC x∧fitC x:=fun x hx=>by
 have:x=[⟨false, .mk 2 [toyX],toyX⟩]:=by simpa [toyU] using hx
 subst this
 exact Ybp _ (by decide) ⟨Zjz.2.2.1,Zjz.1⟩
theorem Ymy (t:Tm) (h:t.size<100) (hf:t.fit):smallC (toyS t)∧fitC (toyS t):=Ybp _ ⟨by simp [Tm.size,Tm.sizes];omega,by simp [Tm.size,Tm.sizes]⟩ ⟨Zjz.2.2.2.2 t hf,by simp [Tm.fit,Tm.fits,In64]⟩
theorem Yio (t:Tm) (h:t.size<100) (hf:t.fit):inX toyU (toyS t):=⟨by decide,fun x hx=>by
 rcases List.mem_cons.1 hx with rfl | hx
 ·exact Ymy t h hf
 ·exact Ykt x hx⟩
set_option maxRecDepth 10000 in
theorem Zeb:CallEq Tryz.prog 11 [] (.bool true):=by
 refine CallEq.begin (rs:=[.tmp 0]) (m:=80) 1000 Tryz.func11 rfl rfl rfl (by decide) trivial ?_
 have hv:=Yla 0 (by omega)
 rw [show Tm.mk (-1 - 0) []=toyX from rfl] at hv
 have hf1:CallEq Tryz.prog 31 [.int .i64 1, .ps 2 []] toyA.toA:=Znh 1 []
 simp only [go_sem]
 refine VCall.isoT [] hv (by simp only [go_sem]) ⟨trivial,trivial⟩ ?_
 rw [Zah];simp only [ite_self]
 refine EvK.go 1000 ?_
 simp only [go_sem,Za8]
 refine VCall.isoT [] hf1 (by simp only [go_sem]) ⟨trivial,trivial,trivial⟩ ?_
 rw [Zah];simp only [ite_self]
 refine EvK.go 1000 ?_
 simp only [go_sem,Za8]
 refine EvK.draw [.no,⟨some 2,[2],[]⟩,⟨none,[2],[]⟩,⟨none,[],[2]⟩, .no,⟨some 3,[3],[]⟩,⟨some 4,[4],[]⟩] 2 5 mixed rfl rfl (by decide) ?_
 simp only [go_sem,padS]
 have r0:toyX.toA = .agg [.int .i64 toyX.head, .ps 2 (List.map Tm.toA toyX.args)]:=Za6 _
 refine Zel [2] (Zr1 toyX) ?_ ⟨trivial,⟨Za7 _,trivial⟩,trivial⟩ (by rw [Zeh];simp [frzI,frzO,among,sameO]) ?_
 ·simp only [go_sem,Zb1,Zba,r0]
 rw [Zeh]
 simp only [go_sem,frzI,frzO,Zb1,Zba,Bool.false_eq_true,if_false,Za8]
 refine EvK.go 1000 ?_
 simp only [go_sem]
 refine EvK.draw [⟨none,[],[5]⟩,⟨none,[],[5,6]⟩,⟨none,[],[5,6]⟩, .no,⟨some 5,[5],[]⟩,⟨none,[5],[]⟩,⟨some 6,[6],[]⟩,⟨none,[6],[]⟩, .no,⟨none,[3,4],[]⟩] 5 7 mixed rfl rfl (by decide) ?_
 simp only [go_sem,padS]
 refine Zar Yc8 (Za1 _ _ _) trivial ?_
 simp only [go_sem]
 have r1:toyA.toA = .agg [.int .i64 toyA.head, .ps 2 (List.map Tm.toA toyA.args)]:=Za6 _
 refine Zel [5] (Zr1 toyA) ?_ ⟨trivial,⟨Za7 _,trivial⟩,trivial⟩ (by rw [Zeh];simp [frzI,frzO,among,sameO]) ?_
 ·simp only [go_sem,Zb1,Zba,r1]
 rw [Zeh]
 simp only [go_sem,frzI,frzO,Zb1,Zba,Bool.false_eq_true,if_false,Za8]
 have r2:(toyF toyA).toA = .agg [.int .i64 (toyF toyA).head, .ps 2 (List.map Tm.toA (toyF toyA).args)]:=Za6 _
 refine Zel [6] (Zr1 (toyF toyA)) ?_ ⟨trivial,⟨Za7 _,trivial⟩,trivial⟩ (by rw [Zeh];simp [frzI,frzO,among,sameO]) ?_
 ·simp only [go_sem,Zb1,Zba,r2]
 rw [Zeh]
 simp only [go_sem,frzI,frzO,Zb1,Zba,Bool.false_eq_true,if_false,Za8]
 refine Zar (Zgs (toyF (toyF toyA))) (Za1 _ _ _) ⟨Za7 _,trivial⟩ ?_
 simp only [go_sem]
 have hN:=Ztn toyG toyU (toyS (toyF (toyF toyA))) (Yio _ (by decide) Zjz.2.2.2.1)
 rw [show normX toyG toyU (toyS (toyF (toyF toyA)))=(toyS toyA,[0,0],0) from Yus] at hN
 have fl1:flatR (.tup [.ps 5 (lits (toyS toyA,[(0:Int),0],(0:Int)).1), .ps 1 (ints (toyS toyA,[(0:Int),0],(0:Int)).2.1), .int .i64 (toyS toyA,[(0:Int),0],(0:Int)).2.2])=false:=rfl
 have eU:clsA toyU=[.ps 5 [.agg [.bool false, .int .i64 (toyF toyX).head, .ps 2 ((toyF toyX).args.map Tm.toA), .int .i64 toyX.head, .ps 2 (toyX.args.map Tm.toA)]]]:=rfl
 refine Zel [3,4] hN ?_ ⟨Za5 _,Zav _,Za3 _,trivial⟩ (by rw [fl1];simp [frzI,frzO,among,sameO]) ?_
 ·simp only [go_sem,Zb1,Zba,eU]
 rw [fl1]
 simp only [go_sem,frzI,frzO,Zb1,Zba,Bool.false_eq_true,if_false,Za8]
 refine EvK.go 1000 ?_
 simp only [go_sem]
 refine EvK.draw [.no, .no, .no, .no, .no,⟨none,[3,4],[]⟩] 7 7 mixed rfl rfl (by decide) ?_
 simp only [go_sem,padS]
 refine Zar Yc8 (Za1 _ _ _) trivial ?_
 simp only [go_sem]
 refine Zar (Zgs toyA) (by rw [r1];exact Za1 _ _ _) ⟨Za7 _,trivial⟩ ?_
 simp only [go_sem]
 have hS:=Yf0 toyG toyU (toyS toyA) (Yio _ (by decide) Zjz.2.1)
 rw [Yu0] at hS
 have fl2:flatR (.tup [.ps 5 (lits (toyS toyA,(-1:Int),false,(0:Int)).1), .int .i64 (toyS toyA,(-1:Int),false,(0:Int)).2.1, .bool (toyS toyA,(-1:Int),false,(0:Int)).2.2.1, .int .i64 (toyS toyA,(-1:Int),false,(0:Int)).2.2.2])=false:=rfl
 refine Zel [3,4] hS ?_ ⟨Za5 _,Zav _,Za3 _,trivial⟩ (by rw [fl2];simp [frzI,frzO,among,sameO]) ?_
 ·simp only [go_sem,Zb1,Zba,eU]
 rw [fl2]
 simp only [go_sem,frzI,frzO,Zb1,Zba,Bool.false_eq_true,if_false,Za8]
 refine EvK.go 1000 ?_
 simp only [go_sem]
 have hsz:sizC (toyS toyA):=fun l hl=>by
  rw [List.mem_singleton.1 hl];exact ⟨by decide,by decide⟩
 have hE:=Zrb (toyS toyA) (toyS toyA) hsz hsz (by decide)
 rw [(Zmi _ _).2 rfl] at hE
 have hI:=Ymm [0,0] [0,0] (by decide)
 rw [decide_eq_true rfl] at hI
 refine VCall.isoT [] (Zgs toyA) (by rw [r1];exact Za1 _ _ _) ⟨Za7 _,trivial⟩ ?_
 rw [Zah];simp only [ite_self]
 refine EvK.go 1000 ?_
 simp only [go_sem]
 refine VCall.isoT [] (hE) (Za1 _ _ _) (by simp [go_sem,Za3]) ?_;simp only [flatR,flatA,flatC,if_true];refine EvK.go 1000 ?_
 simp only [go_sem]
 refine VCall.isoT [7] hI ?_ ⟨Za4 _,Za4 _,trivial⟩ ?_
 ·have e0:ints [0,0]=[.int .i64 0, .int .i64 0]:=rfl
  simp only [go_sem,Zb1,Zba,e0]
 simp only [flatR,flatA,flatC,if_true]
 refine EvK.go 1000 ?_
 simp only [go_sem,beq_self_eq_true]
 refine VCall.isoT [] (Zgs toyA) (by rw [r1];exact Za1 _ _ _) ⟨Za7 _,trivial⟩ ?_
 rw [Zah];simp only [ite_self]
 refine EvK.go 1000 ?_
 simp only [go_sem]
 refine VCall.isoT [] (hE) (Za1 _ _ _) (by simp [go_sem,Za3]) ?_;simp only [flatR,flatA,flatC,if_true];refine EvK.go 1000 ?_
 simp only [go_sem]
end Go.Proofs
namespace Go.Proofs
open Go Go.Abs
theorem len2 {l:List AVal} (h:l.length=2):∃ a b,l=[a,b]:=by
 rcases l with _ | ⟨a,_ | ⟨b,_ | ⟨c,l⟩⟩⟩<;>first | exact ⟨_,_,rfl⟩ | simp at h
theorem len3 {l:List AVal} (h:l.length=3):∃ a b c,l=[a,b,c]:=by
 rcases l with _ | ⟨a,l⟩
 ·simp at h
 ·obtain ⟨b,c,rfl⟩:=len2 (l:=l) (by simpa using h);exact ⟨_,_,_,rfl⟩
theorem len4 {l:List AVal} (h:l.length=4):∃ a b c d,l=[a,b,c,d]:=by
 rcases l with _ | ⟨a,l⟩
 ·simp at h
 ·obtain ⟨b,c,d,rfl⟩:=len3 (l:=l) (by simpa using h);exact ⟨_,_,_,_,rfl⟩
theorem len5 {l:List AVal} (h:l.length=5):∃ a b c d e,l=[a,b,c,d,e]:=by
 rcases l with _ | ⟨a,l⟩
 ·simp at h
 ·obtain ⟨b,c,d,e,rfl⟩:=len4 (l:=l) (by simpa using h);exact ⟨_,_,_,_,_,rfl⟩
theorem Yby:∀ {ts:List Tm},(∀ t∈ts,t.fit)→Tm.fits ts
 | [],_=>trivial
 | t :: ts,h=>⟨h t List.mem_cons_self,Yby fun x hx=>h x (List.mem_cons_of_mem _ hx)⟩
theorem Yka (t:Tm):isAggA t.toA=true:=by rw [Za6];rfl
theorem Zzu:∀ (n:Nat) (cs:List AVal),TyT Tryz.prog n 48 cs→∃ t:Tm,cs=t.toA.cells∧t.fit:=by
 intro n
 induction n using Nat.strongRecOn with
 | _ n ih =>
 intro cs h
 obtain ⟨m,rfl,h1,h2⟩:=Zj4 (L:=[(3,0,1),(46,1,1)]) (N:=2) (by kernel_rfl) (by kernel_rfl) h
 obtain ⟨i,e1,hi⟩:=Zk0 (by kernel_rfl) (h2 (3,0,1) (by simp))
 obtain ⟨m',rfl,es,e2,_,h4⟩:=Zho (e:=48) (sz:=2) (ag:=true) (by kernel_rfl) (h2 (46,1,1) (by simp))
 obtain ⟨ts,rfl,h5⟩:=Zbz (f:=Tm.toA) (p:=Tm.fit) es fun x hx=>by
  obtain ⟨g1,g2⟩:=h4 x hx
  obtain ⟨t,g3,g4⟩:=ih m' (by omega) _ g2
  exact ⟨t,Zf5 g1 (Yka t) g3,g4⟩
 obtain ⟨a,b,rfl⟩:=len2 h1
 simp at e1 e2
 subst e1 e2
 exact ⟨.mk i ts,by rw [Za8];rfl,hi,Yby h5⟩
theorem Zox {a:AVal} {t e:TypeId} {sz:Nat} {ag:Bool} (hs:sliceElem Tryz.prog t=some (e,sz,ag)) (ha:aggOf Tryz.prog t=false) (h:TyV Tryz.prog t a):∃ m es,a = .ps sz es∧es.length≤maxLen∧∀ x∈es,isAggA x=ag∧TyT Tryz.prog m e x.cells:=by
 obtain ⟨h1,n,h2⟩:=h
 obtain ⟨m,_,es,h3,h4,h5⟩:=Zho hs h2
 exact ⟨m,es,Zei (h1.trans ha) h3,h4,h5⟩
theorem Ylh (n:Nat) (cs:List AVal) (h:TyT Tryz.prog n 71 cs):∃ s:Sy,cs=s.toA.cells∧True:=by
 obtain ⟨m,rfl,h1,h2⟩:=Zj4 (L:=[(9,0,1),(3,1,1),(3,2,1),(4,3,1)]) (N:=4) (by kernel_rfl) (by kernel_rfl) h
 obtain ⟨s,e1,_⟩:=Ykl (by kernel_rfl) (h2 (9,0,1) (by simp))
 obtain ⟨i,e2,_⟩:=Zk0 (by kernel_rfl) (h2 (3,1,1) (by simp))
 obtain ⟨j,e3,_⟩:=Zk0 (by kernel_rfl) (h2 (3,2,1) (by simp))
 obtain ⟨b,e4⟩:=Zts (by kernel_rfl) (h2 (4,3,1) (by simp))
 obtain ⟨x1,x2,x3,x4,rfl⟩:=len4 h1
 simp at e1 e2 e3 e4
 subst e1 e2 e3 e4
 exact ⟨⟨s,i,j,b⟩,rfl,trivial⟩
theorem Ye5 {a:AVal} (h:TyV Tryz.prog 22 a):∃ g:List Sy,a = .ps 4 (syms g):=by
 obtain ⟨m,es,rfl,_,h5⟩:=Zox (e:=71) (sz:=4) (ag:=true) (by kernel_rfl) (by kernel_rfl) h
 obtain ⟨g,rfl,_⟩:=Zbz (f:=Sy.toA) (p:=fun _=>True) es fun x hx=>by
  obtain ⟨g1,g2⟩:=h5 x hx
  obtain ⟨s,g3,_⟩:=Ylh m _ g2
  exact ⟨s,Zf5 g1 rfl g3,trivial⟩
 exact ⟨g,rfl⟩
theorem Zy1 {n:Nat} {cs:List AVal} (h:TyT Tryz.prog n 31 cs):∃ l:List Int,cs=[.ps 1 (ints l)]∧l.length≤maxLen∧∀ i∈l,In64 i:=by
 obtain ⟨m,_,es,h3,h4,h5⟩:=Zho (e:=3) (sz:=1) (ag:=false) (by kernel_rfl) h
 obtain ⟨l,rfl,hl⟩:=Zbz (f:=fun i=>.int .i64 i) (p:=In64) es fun x hx=>by
  obtain ⟨g1,g2⟩:=h5 x hx
  obtain ⟨i,g3,g4⟩:=Zk0 (by kernel_rfl) g2
  exact ⟨i,Zei g1 g3,g4⟩
 exact ⟨l,h3,by simpa using h4,hl⟩
theorem Yot {a:AVal} (h:TyV Tryz.prog 39 a):∃ w:Wo,a=w.toA:=by
 obtain ⟨h0,n,h⟩:=h
 obtain ⟨m,rfl,h1,h2⟩:=Zj4 (L:=[(3,0,1),(37,1,1)]) (N:=2) (by kernel_rfl) (by kernel_rfl) h
 obtain ⟨i,e1,hi⟩:=Zk0 (by kernel_rfl) (h2 (3,0,1) (by simp))
 obtain ⟨m',rfl,es,e2,_,h4⟩:=Zho (e:=31) (sz:=1) (ag:=false) (by kernel_rfl) (h2 (37,1,1) (by simp))
 obtain ⟨rs,rfl,_⟩:=Zbz (f:=fun r=>.ps 1 (ints r)) (p:=fun _=>True) es fun x hx=>by
  obtain ⟨g1,g2⟩:=h4 x hx
  obtain ⟨l,g3,_⟩:=Zy1 g2
  exact ⟨l,Zei g1 g3,trivial⟩
 refine ⟨⟨i,rs⟩,Zf5 (h0.trans (by kernel_rfl)) rfl ?_⟩
 generalize a.cells=cs at *
 obtain ⟨x,y,rfl⟩:=len2 h1
 simp at e1 e2
 subst e1 e2
 rfl
theorem Yay (n:Nat) (cs:List AVal) (h:TyT Tryz.prog n 50 cs):∃ l:Li,cs=l.toA.cells∧l.l.fit∧l.r.fit:=by
 obtain ⟨m,rfl,h1,h2⟩:=Zj4 (L:=[(4,0,1),(48,1,2),(48,3,2)]) (N:=5) (by kernel_rfl) (by kernel_rfl) h
 obtain ⟨b,e1⟩:=Zts (by kernel_rfl) (h2 (4,0,1) (by simp))
 obtain ⟨l,e2,f2⟩:=Zzu m _ (h2 (48,1,2) (by simp))
 obtain ⟨r,e3,f3⟩:=Zzu m _ (h2 (48,3,2) (by simp))
 obtain ⟨x1,x2,x3,x4,x5,rfl⟩:=len5 h1
 rw [Za8] at e2 e3
 simp at e1 e2 e3
 obtain ⟨rfl,rfl⟩:=e2
 obtain ⟨rfl,rfl⟩:=e3
 subst e1
 exact ⟨⟨b,l,r⟩,rfl,f2,f3⟩
theorem Yjx {a:AVal} (h:TyV Tryz.prog 23 a):∃ es:List (List Li),a = .ps 1 (clsA es)∧∀ c∈es,fitC c:=by
 obtain ⟨m,es,rfl,h4,h5⟩:=Zox (e:=24) (sz:=1) (ag:=false) (by kernel_rfl) (by kernel_rfl) h
 obtain ⟨c,rfl,hc⟩:=Zbz (f:=fun c=>.ps 5 (lits c)) (p:=fitC) es fun x hx=>by
  obtain ⟨g1,g2⟩:=h5 x hx
  obtain ⟨m',_,es',e2,_,h6⟩:=Zho (e:=50) (sz:=5) (ag:=true) (by kernel_rfl) g2
  obtain ⟨c,rfl,hc⟩:=Zbz (f:=Li.toA) (p:=fun l=>l.l.fit∧l.r.fit) es' fun y hy=>by
   obtain ⟨k1,k2⟩:=h6 y hy
   obtain ⟨s,g3,g4⟩:=Yay m' _ k2
   exact ⟨s,Zf5 k1 rfl g3,g4⟩
  exact ⟨c,Zei g1 e2,hc⟩
 exact ⟨c,rfl,hc⟩
theorem Ybj {a:AVal} (h:TyV Tryz.prog 24 a):∃ c:List Li,a = .ps 5 (lits c)∧fitC c∧c.length≤2600000000000:=by
 obtain ⟨h1,n,h2⟩:=h
 obtain ⟨m,_,es,h3,h4,h5⟩:=Zop (e:=50) (sz:=5) (ag:=true) (by kernel_rfl) h2
 have e1:a = .ps 5 es:=Zei (h1.trans (by kernel_rfl)) h3
 subst e1
 obtain ⟨c,rfl,hc⟩:=Zbz (f:=Li.toA) (p:=fun l=>l.l.fit∧l.r.fit) es fun x hx=>by
  obtain ⟨g1,g2⟩:=h5 x hx
  obtain ⟨s,g3,g4⟩:=Yay m _ g2
  exact ⟨s,Zf5 g1 rfl g3,g4⟩
 refine ⟨c,rfl,hc,?_⟩
 have hb:Tryz.prog.bytesOf 50=72:=by kernel_rfl
 have h6:=h4.2
 rw [hb,List.length_map] at h6
 unfold reachBytes at h6
 omega
end Go.Proofs
namespace Go.Proofs
open Go Go.Abs
attribute [local go_sem] Nat.reduceAdd Nat.reduceSub Nat.reduceMul Nat.reduceLeDiff Nat.reduceEqDiff Nat.reduceBEq Nat.reduceLT Nat.le_refl Int.natCast_zero Nat.sub_zero List.length_map Int.toNat_natCast Int.natCast_one Int.reduceEq Int.reduceLT Int.reduceLE Int.reduceNe Int.sub_zero Int.zero_add Int.toNat_one
theorem Yli (g:List Sy) (es:List (List Li)) (c:List Li) (hc:c.length≤2600000000000):CallEq Tryz.prog 8 [.ps 4 (syms g), .ps 1 (clsA es), .ps 5 (lits c)] (.bool (symsFew g&&(fewE es&&fewC c))):=by
 refine CallEq.begin (rs:=[.tmp 6]) (m:=14) 1000 Tryz.func8 rfl rfl rfl (by decide) trivial ?_
 simp only [go_sem]
 refine VCall.isoT [] (Zvz g) (Za1 _ _ _) (by simp [go_sem,Za5]) ?_;simp only [flatR,flatA,flatC,if_true];refine EvK.go 1000 ?_
 cases h1:symsFew g with
 | false=>simp only [go_sem,Bool.false_and]
 | true =>
  simp only [go_sem,Bool.true_and]
  refine VCall.isoT [] (Zyi es) (Za1 _ _ _) (by simp [go_sem,Zav]) ?_;simp only [flatR,flatA,flatC,if_true];refine EvK.go 1000 ?_
  cases h2:fewE es with
  | false=>simp only [go_sem,Bool.false_and]
  | true =>
   simp only [go_sem,Bool.true_and]
   refine VCall.isoT [] (Yab c hc) (Za1 _ _ _) (by simp [go_sem,Za3]) ?_;simp only [flatR,flatA,flatC,if_true];refine EvK.go 1000 ?_
   simp only [go_sem]
theorem Zzl {c:List Li}:∀ l∈c,l.l.size≤Tm.sizes (sides c)∧l.r.size≤Tm.sizes (sides c):=by
 induction c with
 | nil=>intro l hl;cases hl
 | cons a c ih =>
  intro l hl
  have e:Tm.sizes (sides (a :: c))=a.l.size+(a.r.size+Tm.sizes (sides c)):=rfl
  rw [e]
  rcases List.mem_cons.1 hl with rfl | hl
  ·omega
  ·have:=ih l hl;omega
theorem Yk9 {c:List Li} (h:fewC c=true):Tm.sizes (sides c)≤80∧c.length≤8:=by
 unfold fewC at h
 simp only [Bool.and_eq_true,decide_eq_true_eq] at h
 have:=(Zm1 (m:=80) (by omega) (sides c) 0 (by omega) (by omega)).2 h.1
 omega
theorem Zxf {c:List Li} (h:litsFew c=true):Tm.sizes (sides c)≤500∧c.length≤40:=by
 unfold litsFew at h
 simp only [Bool.and_eq_true,decide_eq_true_eq] at h
 have:=(Zlh (sides c) 0 (by omega) (by omega)).2 h.2
 omega
theorem Zz9:∀ (es:List (List Li)) (n:Int),(lenS es n).1=true→∀ c∈es,litsFew c=true
 | [],_,_,c,hc=>by cases hc
 | d :: es,n,h,c,hc=>by
  rw [lenS] at h
  split at h
  ·rename_i h1
   rcases List.mem_cons.1 hc with rfl | hc
   ·exact h1
   ·exact Zz9 es _ h c hc
  ·cases h
theorem Yde {es:List (List Li)} (h:fewE es=true):es.length≤8∧∀ c∈es,litsFew c=true:=by
 unfold fewE at h
 simp only [Bool.and_eq_true,decide_eq_true_eq] at h
 exact ⟨h.1,Zz9 es 0 h.2.1⟩
theorem Zp7 {c:List Li} (h:Tm.sizes (sides c)≤1000):smallC c:=fun i hi=>by
 have:=Zzl (c:=c) _ (List.getElem_mem hi)
 omega
theorem Yrn {es:List (List Li)} {c:List Li} (h1:fewE es=true) (h2:fewC c=true) (f1:∀ x∈es,fitC x) (f2:fitC c):inX es c:=by
 obtain ⟨a1,a2⟩:=Yde h1
 refine ⟨by omega,fun x hx=>?_⟩
 rcases List.mem_cons.1 hx with rfl | hx
 ·exact ⟨Zp7 (by have:=(Yk9 h2).1;omega),f2⟩
 ·exact ⟨Zp7 (by have:=(Zxf (a2 x hx)).1;omega),f1 x hx⟩
def ofB (bs:List Bd) (v:Int):Tm:=((bs.find? fun b=>b.v==v).map Bd.t).getD (.mk (-1 - v) [])
mutual
def Tm.pd (bs:List Bd):Tm→Tm
 | .mk h ts=>if h<0 then ofB bs (-1 - h) else .mk h (Tm.pdL bs ts)
def Tm.pdL (bs:List Bd):List Tm→List Tm
 | []=>[]
 | t :: ts=>t.pd bs :: Tm.pdL bs ts
end
theorem Zdj {t:Tm} (h:t.good=true) : -256≤t.head∧t.head≤1023∧t.args.length≤8∧(t.head<0→t.args=[]):=by
 obtain ⟨k,ts⟩:=t
 rw [Tm.good] at h
 simp only [Bool.and_eq_true,Bool.not_eq_true',Bool.or_eq_false_iff,decide_eq_false_iff_not,Bool.and_eq_false_iff] at h
 simp only [Tm.head,Tm.args]
 refine ⟨by omega,by omega,by omega,fun hn=>?_⟩
 rcases h.1.1.1.1 with h1 | h1
 ·exact absurd hn h1
 ·exact List.eq_nil_of_length_eq_zero (by omega)
theorem Zpr:∀ {ts:List Tm},Tm.goods ts=true→∀ t∈ts,t.good=true
 | x :: ts,h,t,ht=>by
  rw [Tm.goods,Bool.and_eq_true] at h
  rcases List.mem_cons.1 ht with rfl | ht
  ·exact h.1
  ·exact Zpr h.2 t ht
theorem Zcj {t:Tm} (h:t.good=true):∀ u∈t.args,u.good=true:=by
 obtain ⟨k,ts⟩:=t
 rw [Tm.good,Bool.and_eq_true] at h
 exact Zpr h.2
mutual
def gatD:Tm→Tm→List Bd→List Bd×Bool
 | .mk h ts,u,s=>if h<0 then (match s.find? (fun b=>b.v == -1 - h) with | some b=>(s,decide (b.t=u)) | none=>(s++[⟨-1 - h,u⟩],true))
  else if h≠u.head∨ts.length≠u.args.length then (s,false) else gatDL ts u.args s
def gatDL:List Tm→List Tm→List Bd→List Bd×Bool
 | [],_,s=>(s,true)
 | _ :: _,[],s=>(s,true)
 | t :: ts,u :: us,s=>if (gatD t u s).2=true then gatDL ts us (gatD t u s).1 else (s,false)
end
@[go_sem] theorem Yxw (l:List Bd):appOk ⟨3,true,40,[.int .i64 0, .int .i64 0, .nils], .struct⟩ (bds l)=True:=eq_true (by
 refine ⟨fun x hx=>?_,by decide,by decide,rfl⟩
 obtain ⟨t,_,rfl⟩:=List.mem_map.1 hx
 exact ⟨rfl,rfl⟩)
mutual
theorem Ztm {P:Tm→Prop} (hP:∀ t,P t→∀ u∈t.args,P u):∀ (t u:Tm) (s:List Bd),P u→(∀ b∈s,P b.t)→∀ b∈(gatD t u s).1,P b.t
 | .mk h ts,u,s,hu,hs=>by
  rw [gatD]
  split
  ·split
   ·exact hs
   ·intro b hb
    rcases List.mem_append.1 hb with hb | hb
    ·exact hs b hb
    ·rw [List.mem_singleton.1 hb];exact hu
  ·split
   ·exact hs
   ·exact Zos hP ts u.args s (hP u hu) hs
theorem Zos {P:Tm→Prop} (hP:∀ t,P t→∀ u∈t.args,P u):∀ (ts us:List Tm) (s:List Bd),(∀ u∈us,P u)→(∀ b∈s,P b.t)→∀ b∈(gatDL ts us s).1,P b.t
 | [],_,s,_,hs=>by rw [gatDL];exact hs
 | _ :: _,[],s,_,hs=>by rw [gatDL];exact hs
 | t :: ts,u :: us,s,hu,hs=>by
  rw [gatDL]
  have h1:=Ztm hP t u s (hu u (by simp)) hs
  split
  ·exact Zos hP ts us _ (fun x hx=>hu x (by simp [hx])) h1
  ·exact hs
end
def rightL (l:List Tm):Bool:=l.all fun t=>decide (t.check=0)
def gaLD (p t:List Tm):List Bd×Bool:=if (gatDL p t []).2=true then gatDL p t [] else ([],false)
def tidyAt (s:List Bd) (v:Nat):Option Bd:=if (ofB s v).head = -1 - (v:Int) then none else some ⟨v,ofB s v⟩
def tidyL (s:List Bd) (n:Nat):List Bd:=(List.range n).filterMap (tidyAt s)
def tidyD (s:List Bd):List Bd:=tidyL s 256
def allD (p t:List Tm):List Bd×Bool×Int :=
 if rightL p=false∨rightL t=false∨p.length≠t.length then ([],false,1) else if (gaLD p t).2=false then ([],false,0) else (tidyD (gaLD p t).1,true,0)
theorem Zlv {t u:Tm} (h:u∈t.args):u.depth<t.depth:=by
 obtain ⟨k,ts⟩:=t
 have key:∀ ts:List Tm,u∈ts→u.depth≤Tm.depths ts:=by
  intro ts
  induction ts with
  | nil=>intro h;cases h
  | cons a ts ih =>
   intro h
   rw [Tm.depths]
   rcases List.mem_cons.1 h with rfl | h
   ·omega
   ·have:=ih h;omega
 have:=key ts h
 rw [Tm.depth];omega
theorem Zlz {g:List Sy}:∀ {ts:List Tm},Tm.knowns g ts=true→∀ u∈ts,u.known g=true
 | a :: ts,h,u,hu=>by
  rw [Tm.knowns,Bool.and_eq_true] at h
  rcases List.mem_cons.1 hu with rfl | hu
  ·exact h.1
  ·exact Zlz h.2 u hu
theorem Zlg {g:List Sy}:∀ {ts:List Tm},Tm.thingsL g ts=true→∀ u∈ts,u.truth g=false∧u.things g=true
 | a :: ts,h,u,hu=>by
  rw [Tm.thingsL,Bool.and_eq_true,Bool.and_eq_true,Bool.not_eq_true'] at h
  rcases List.mem_cons.1 hu with rfl | hu
  ·exact h.1
  ·exact Zlg h.2 u hu
theorem Yk0 {g:List Sy} {t:Tm} (hs:sigOk g=true) (h1:t.check=0) (h2:t.known g=true) (h3:t.things g=true):t.term g=0:=by
 unfold Tm.term
 rw [if_neg (by rw [hs];simp),if_neg (by simp [h1]),if_neg (by rw [h2];simp),if_neg (by rw [h3];simp)]
theorem Zv7 {t:Tm} (h1:t.size≤400) (h2:t.depth≤40) (h3:t.good=true):t.check=0:=by
 unfold Tm.check
 rw [if_neg (by omega),if_neg (by omega),if_pos h3]
theorem Yah {g:List Sy} {t:Tm} (h:t.term g=0):∀ u∈t.args,u.term g=0∧u.truth g=false:=fun u hu=>by
 have hs:=Zrr h
 obtain ⟨h1,h2,h3⟩:=Zb8 h
 obtain ⟨c1,c2,c3⟩:=Zbf h1
 have z1:=Zbl hu
 have z2:=Zay t
 have z3:=Zlv hu
 have z4:=Zcj c3 u hu
 obtain ⟨k,ts⟩:=t
 have hkn:Tm.knowns g ts=true:=by
  rw [Tm.known] at h2
  simp only [Bool.or_eq_true,Bool.and_eq_true,decide_eq_true_eq] at h2
  rcases h2 with h2 | h2
  ·have:=(Zdj c3).2.2.2 h2
   rw [this] at hu;cases hu
  ·exact h2.2
 obtain ⟨y1,y2⟩:=Zlg (by rwa [Tm.things] at h3) u hu
 exact ⟨Yk0 hs (Zv7 (by omega) (by omega) z4) (Zlz hkn u hu) y2,y1⟩
theorem Ye1 {g:List Sy}:∀ t,rtT g t→∀ u∈t.args,rtT g u:=fun t h u hu=>⟨(Yah h.1 u hu).1,Zca (Zcx h.2) u hu⟩
end Go.Proofs
