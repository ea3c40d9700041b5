/- Part 44 of my own framework and of the walks of functions: Sa, AcsR, AcsS, AcsT, AcsU. -/
import Derived.Test.YtpgnahcljlclcaaGreatOwn43
set_option linter.unusedVariables false
set_option linter.unusedSectionVars false
set_option linter.unusedSimpArgs false
namespace Go.Proofs
open Go Go.Abs
attribute [local go_sem] Nat.reduceAdd Nat.reduceSub Nat.reduceMul Nat.reduceLeDiff Nat.reduceEqDiff Nat.reduceBEq Nat.reduceLT Nat.le_refl Int.natCast_zero Nat.sub_zero List.length_map Int.toNat_natCast Int.natCast_one Int.reduceEq Int.reduceLT Int.reduceLE Int.reduceNe Int.sub_zero Int.zero_add Int.toNat_one
def seenAny (p:Int→Bool) (vs:List Int) (seen:List Nat):Bool:=seen.any fun i=>p (vs.getD i 0)
theorem Yas (p q:Nat→Bool) (h:∀ x,p x=true→q x=true):∀ l:List Nat,(l.filter p).length≤(l.filter q).length
 | []=>Nat.le_refl _
 | x :: l=>by
  have:=Yas p q h l
  simp only [List.filter_cons]
  cases hp:p x with
  | true=>simp [h x hp];omega
  | false=>cases hq:q x<;>simp<;>omega
theorem Zyf (p q:Nat→Bool) (h:∀ x,p x=true→q x=true):∀ (l:List Nat) (i:Nat),i∈l→q i=true→p i=false→(l.filter p).length<(l.filter q).length
 | x :: l,i,hi,h1,h2=>by
  have hle:=Yas p q h l
  simp only [List.filter_cons]
  rcases List.mem_cons.1 hi with rfl | hi
  ·simp [h1,h2];omega
  ·have:=Zyf p q h l i hi h1 h2
   cases hp:p x with
   | true=>simp [h x hp];omega
   | false=>cases hq:q x<;>simp<;>omega
def unseen (n:Nat) (seen:List Nat):Nat:=((List.range n).filter fun j=>!seen.contains j).length
theorem Zpz {n j:Nat} {seen:List Nat} (hj:j<n) (hn:j ∉ seen):unseen n (seen++[j])<unseen n seen :=
 Zyf _ _ (fun x hx=>by
  simp only [Bool.not_eq_true',← Bool.not_eq_true,List.contains_iff_mem] at hx ⊢
  exact fun h=>hx (List.mem_append.2 (.inl h))) _ j (List.mem_range.2 hj) (by simpa using hn) (by simp)
theorem Yfa (w:Int) (ks:List AVal) (vs:List Int) (h:ks.length=vs.length) (hk:lowL 0 ks):CallEq Tryz.prog 177 [.pp [.int .i64 w, .pm ks (ints vs)]] (.tup [.bool (vs.any fun n=>decide (0<n)), .bool (vs.any fun n=>decide (n<0))]):=by
 refine CallEq.begin (rs:=[.tmp 2, .tmp 3]) (m:=28) 1000 Tryz.func177 rfl rfl rfl (by decide) ⟨trivial,trivial,trivial⟩ ?_
 simp only [go_sem]
 refine EvK.loopI (ι:={seen:List Nat // ∀ i∈seen,i<ks.length}) 1000 (fun x=>mkT 29 [(2, .bool false),(3, .bool false),(4, .bool (seenAny (fun n=>decide (0<n)) vs x.1)),(5, .bool (seenAny (fun n=>decide (n<0)) vs x.1)),(12, .it 0)])
  (fun x=>[some (.mit ks (ints vs) x.1)]) (fun x=>unseen ks.length x.1) ⟨[],fun i hi=>by cases hi⟩ ?_ (fun _=>Nat.zero_le _) ?_
 ·simp only [go_sem,seenAny,List.any_nil]
  exact ⟨Zac (Nat.zero_le 1) hk,Za4 _⟩
 ·rintro ⟨seen,hs⟩
  simp only [go_sem]
  refine ⟨0,ks,ints vs,seen,rfl,rfl,fun j hj hn=>?_,fun hall=>?_⟩
  ·have hjv:j<vs.length:=by omega
   have hs':∀ i∈seen++[j],i<ks.length:=fun i hi=>by
    rcases List.mem_append.1 hi with hi | hi
    ·exact hs i hi
    ·rw [List.mem_singleton.1 hi];exact hj
   have hadd:∀ p:Int→Bool,seenAny p vs (seen++[j])=(seenAny p vs seen||p (vs.getD j 0)):=fun p=>by simp [seenAny]
   have hg:(ints vs).getD j .undef = .int .i64 (vs.getD j 0):=by
    rw [Zbe hjv];simp [List.getD,List.getElem?_eq_getElem hjv]
   generalize vs.getD j 0=v at hadd hg
   have h1:=hadd fun n=>decide (0<n)
   have h2:=hadd fun n=>decide (n<0)
   generalize ha:seenAny (fun n=>decide (0<n)) vs seen=a at h1
   generalize hb:seenAny (fun n=>decide (n<0)) vs seen=b at h2
   cases a<;>cases b<;>(
    refine EvK.go 1000 ?_
    simp only [go_sem,hg,ha,hb]
    refine ⟨⟨seen++[j],hs'⟩,?_,Zpz hj hn⟩
    simp only [go_sem,h1,h2,Za4,hk,Zac (Nat.zero_le 1) hk]
    first | done | exact ⟨Za9 _,by decide⟩ | exact Za9 _ | decide | trace_state)
  ·have hfin:∀ p:Int→Bool,seenAny p vs seen=vs.any p:=fun p=>by
    rw [Bool.eq_iff_iff,seenAny,List.any_eq_true,List.any_eq_true]
    constructor
    ·rintro ⟨i,hi,hp⟩
     have hiv:i<vs.length:=by have:=hs i hi;omega
     exact ⟨vs[i],List.getElem_mem hiv,by simpa [List.getD,List.getElem?_eq_getElem hiv] using hp⟩
    ·rintro ⟨x,hx,hp⟩
     obtain ⟨i,hi,rfl⟩:=List.mem_iff_getElem.1 hx
     exact ⟨i,hall i (by omega),by simpa [List.getD,List.getElem?_eq_getElem hi] using hp⟩
   refine EvK.go 1000 ?_
   simp only [go_sem]
   refine EvK.go 1000 ?_
   simp only [go_sem,hfin]
def sideF (n:Int) (more less:Bool):Int:=if 0<n∧less=false then 1 else if n<0∧more=false then -1 else 2
theorem Yn2 (w n:Int) (ks:List AVal) (vs:List Int) (h:ks.length=vs.length) (hk:lowL 0 ks):CallEq Tryz.prog 160 [.pp [.int .i64 w, .pm ks (ints vs)], .int .i64 n] (.int .i64 (sideF n (vs.any fun n=>decide (0<n)) (vs.any fun n=>decide (n<0)))):=by
 refine CallEq.begin (rs:=[.tmp 4]) (m:=24) 1000 Tryz.func160 rfl rfl rfl (by decide) trivial ?_
 have hS:=Yfa w ks vs h hk
 generalize (vs.any fun n=>decide (0<n))=a at *
 generalize (vs.any fun n=>decide (n<0))=b at *
 simp only [go_sem]
 refine VCall.isoT [] hS (Za1 _ _ _) ⟨⟨trivial,⟨hk,Za4 _⟩,trivial⟩,trivial⟩ ?_
 rw [Zah]
 simp only [ite_self]
 refine EvK.go 1000 ?_
 by_cases c1 : 0<n
 ·have c2:¬ n<0:=by omega
  cases b
  ·simp only [go_sem,c1,c2]
   simp [sideF,c1]
  ·simp only [go_sem,c1,c2]
   simp [sideF,c1,c2]
 ·by_cases c2:n<0
  ·cases a
   ·simp only [go_sem,c1,c2]
    simp [sideF,c1,c2]
   ·simp only [go_sem,c1,c2]
    simp [sideF,c1,c2]
  ·simp only [go_sem,c1,c2]
   simp [sideF,c1,c2]
end Go.Proofs
namespace Go.Abs
open Go
section
variable {P:Program} {F:Frame→List Frame→Sem Next→World→Value→World→Prop} {σ:Store}
end
section
variable {P:Program} {lo:Ctx} {Q:AExit→St→Prop} {ops:Array Oper}
end
section
variable {P:Program} {σ:Store}
end
section
variable {P:Program}
theorem Zjk {B x:Blk} {b:Nat}:([some B]:Store)[b]? = some (some x)↔b=0∧B=x:=by
 cases b with
 | zero=>simp
 | succ b=>simp
end
def blankE (sz:Nat):AVal:=if sz=1 then .undef else .agg (List.replicate sz .undef)
theorem Zyo (sz:Nat):(blankE sz).cells.length=sz:=by
 unfold blankE;split
 ·rename_i h;rw [h];rfl
 ·simp [AVal.cells]
theorem Zze (sz j:Nat):(blankE sz).cells.getD j .undef = .undef:=by
 unfold blankE;split
 ·cases j<;>simp [AVal.cells]
 ·simp only [AVal.cells,List.getD_eq_getElem?_getD,List.getElem?_replicate];split<;>rfl
def osOf:AVal→AVal
 | .oc b off n _ sz=>.os b off n sz
 | a=>a
section
variable {P:Program} {X:Nat→Nat→Prop} {base:Nat} {σ:Store} {β β':Env} {w w':World}
theorem Zug {M:Nat→Nat→Prop} {v:Value} {a:AVal} (h:Rep w M β v a):Rep w M β v (osOf a):=by
 cases a with
 | oc b off n c sz=>cases h with
  | oc0 a h=>exact .os0 a h
  | oc h1 h2 h3=>exact .os h1 h2 h3
 | _=>exact h
theorem Zcn {b:Nat} {x y:Blk} (hb:getS σ b=some x) (hm:∀ L o,y.mut L o↔x.mut L o) {g o:Nat}:Mof (setS σ b y) β g o↔Mof σ β g o:=by
 have hb':=Zae hb
 have hlt:b < σ.length:=(List.getElem?_eq_some_iff.1 hb').1
 have hset:setS σ b y = σ.set b (some y):=by unfold setS;rw [if_pos hlt]
 constructor
 ·rintro ⟨c,z,L,m1,m2,m3,m4⟩
  rw [hset,List.getElem?_set] at m1
  split at m1
  ·rename_i e;subst e
   cases m1
   exact ⟨b,x,L,hb',m2,m3,(hm _ _).1 m4⟩
  ·exact ⟨c,z,L,m1,m2,m3,m4⟩
 ·rintro ⟨c,z,L,m1,m2,m3,m4⟩
  by_cases e:b=c
  ·subst e
   rw [hb'] at m1
   cases m1
   exact ⟨b,y,L,by rw [hset,List.getElem?_set,if_pos rfl,if_pos hlt],m2,m3,(hm _ _).2 m4⟩
  ·exact ⟨c,z,L,by rw [hset,List.getElem?_set,if_neg e];exact m1,m2,m3,m4⟩
theorem Zdb {b:Nat} {x y:Blk} (hb:getS σ b=some x):(setS σ b y).length = σ.length:=by
 have hb':=Zae hb
 have hlt:b < σ.length:=(List.getElem?_eq_some_iff.1 hb').1
 unfold setS;rw [if_pos hlt,List.length_set]
theorem RelS.reblk (hr:RelS X base σ β w) {b:Nat} {x y:Blk} (hb:getS σ b=some x) (hm:∀ L o,y.mut L o↔x.mut L o) (hok:∀ M L,β b=some L→BlkOk w M β L x→BlkOk w M β L y):RelS X base (setS σ b y) β w:=by
 have hb':=Zae hb
 have hlt:b < σ.length:=(List.getElem?_eq_some_iff.1 hb').1
 have hset:setS σ b y = σ.set b (some y):=by unfold setS;rw [if_pos hlt]
 have hM:MT X (setS σ b y) β=MT X σ β:=funext fun g=>funext fun o=>propext (by unfold MT;rw [Zcn hb hm])
 have hget:∀ c z,(setS σ b y)[c]? = some (some z)→(c=b∧z=y)∨σ[c]? = some (some z):=fun c z h=>by
  rw [hset,List.getElem?_set] at h
  split at h
  ·rename_i e;subst e;cases h;exact .inl ⟨rfl,rfl⟩
  ·exact .inr h
 have hsome:∀ c z,(setS σ b y)[c]? = some (some z)→∃ z',σ[c]? = some (some z'):=fun c z h=>by
  rcases hget c z h with ⟨rfl,rfl⟩ | h
  ·exact ⟨x,hb'⟩
  ·exact ⟨z,h⟩
 refine ⟨fun c hc=>hr.dom c (by rw [Zdb hb] at hc;exact hc),fun c z hc=>?_,fun c c' z z' L L' h1 h2 h3 h4 h5=>?_,hr.size,hr.xlt,hr.gl⟩
 ·rw [hM]
  rcases hget c z hc with ⟨rfl,rfl⟩ | h
  ·obtain ⟨L,q1,q2,q3,q4⟩:=hr.blk c x hb'
   exact ⟨L,q1,q2,q3,hok _ L q1 q4⟩
  ·exact hr.blk c z h
 ·obtain ⟨u,hu⟩:=hsome c z h1
  obtain ⟨u',hu'⟩:=hsome c' z' h2
  exact hr.inj c c' u u' L L' hu hu' h3 h4 h5
theorem Ext.reblk {b lo:Nat} {x y:Blk} (hb:getS σ b=some x) (hm:∀ L o,y.mut L o↔x.mut L o) {σ':Store} (h:Ext lo (setS σ b y) β w σ' β' w'):Ext lo σ β w σ' β' w' :=
 ⟨h.os,h.tape,h.output,h.size,fun g o v hc hn=>h.cell g o v hc fun hx=>hn ((Zcn hb hm).1 hx),fun g hg hn=>h.block g hg fun o hx=>hn o ((Zcn hb hm).1 hx),fun g o hx=>(h.newM g o hx).imp (Zcn hb hm).1 fun h=>h,h.env⟩
theorem CallSh.capped {F:Frame→List Frame→Sem Next→World→Value→World→Prop} {g:FuncId} {args pre post:List AVal} {K:AVal→Store→Prop} {b off n sz fz:Nat} {es:List AVal} (ha:args=pre++.os b off n sz :: post) (hb:getS σ b=some (.row es fz)) (hl:es.length=off+n) (hn : 0<n)
  (h:∀ c,n≤c→CallShG P F g (pre++.oc b off n c sz :: post) (setS σ b (.row (es++List.replicate (c - n) (blankE sz)) fz)) K):CallShG P F g args σ K:=by
 subst ha
 intro X base β w vs h1 h2 h3 fr cs h4
 have hk:=h3 pre.length (by simp)
 rw [Zak,if_neg (Nat.lt_irrefl _),Nat.sub_self,List.getD_cons_zero] at hk
 rcases hk.os_inv with ⟨rfl,_⟩ | ⟨L,cap,hL,hLs,hcap,hfit,hv⟩
 ·exact absurd hn (Nat.lt_irrefl _)
 have hm:∀ L o,(Blk.row (es++List.replicate (cap - n) (blankE sz)) fz).mut L o↔(Blk.row es fz).mut L o:=fun _ _=>Iff.rfl
 have hM:MT X (setS σ b (.row (es++List.replicate (cap - n) (blankE sz)) fz)) β=MT X σ β:=funext fun g=>funext fun o=>propext (by unfold MT;rw [Zcn hb hm])
 have hr:=h1.reblk hb hm (fun M L' hL' hok=>by
  obtain rfl:=Option.some.inj (hL.symm.trans hL')
  obtain ⟨c,e,g1,g2,g3,g4,g5⟩:=hok
  refine ⟨c,e,g1,g2,by simp only [List.length_append,List.length_replicate];omega,fun i hi=>?_,fun i j hi hj=>?_⟩
  ·rw [Zak]
   split
   ·exact g4 i (by assumption)
   ·simp only [List.length_append,List.length_replicate] at hi
    rw [show (List.replicate (cap - n) (blankE sz)).getD (i - es.length) AVal.undef=blankE sz by simp [List.getD,show i - es.length<cap - n by omega],Zyo,hLs]
  ·rw [Zak]
   split
   ·exact g5 i j (by assumption) hj
   ·simp only [List.length_append,List.length_replicate] at hi
    rw [show (List.replicate (cap - n) (blankE sz)).getD (i - es.length) AVal.undef=blankE sz by simp [List.getD,show i - es.length<cap - n by omega],Zze]
    exact .undef _)
 obtain ⟨r,σ',β',v,w',q,g1,g2,g3,g4,g5⟩:=h cap hcap X base β w vs hr (by simpa using h2) (fun k hk=>by
  have hk':k<(pre++.os b off n sz :: post).length:=by simpa using hk
  have:=h3 k hk'
  rw [hM]
  by_cases e:k=pre.length
  ·subst e
   rw [Zak,if_neg (Nat.lt_irrefl _),Nat.sub_self,List.getD_cons_zero] at this ⊢
   rw [hv,← hLs];exact .oc hL hcap hfit
  ·rw [Zak] at this ⊢
   split
   ·rename_i hlt;rw [if_pos hlt] at this;exact this
   ·rename_i hlt;rw [if_neg hlt] at this
    obtain ⟨m,hm⟩:∃ m,k - pre.length=m+1:=⟨k - pre.length - 1,by omega⟩
    rw [hm,List.getD_cons_succ] at this ⊢;exact this) fr cs h4
 exact ⟨r,σ',β',v,w',q,g1,g2,by rw [Zdb hb] at g3;exact g3.reblk hb hm,by rw [Zdb hb] at g4;exact g4,g5⟩
def shortK (K:AVal→Store→Prop) (b:Nat) (r:AVal) (σ':Store):Prop:=∃ es fz m,getS σ' b=some (.row es fz)∧K (osOf r) (setS σ' b (.row (es.take m) fz))
theorem CallSh.short {F:Frame→List Frame→Sem Next→World→Value→World→Prop} {g:FuncId} {args:List AVal} {K:AVal→Store→Prop} (b:Nat)
  (h:CallShG P F g args σ (shortK K b)):CallShG P F g args σ K:=by
 intro X base β w vs h1 h2 h3 fr cs h4
 obtain ⟨r,σ',β',v,w',⟨es,fz,m,hb,q⟩,g1,g2,g3,g4,g5⟩:=h X base β w vs h1 h2 h3 fr cs h4
 have hm:∀ L o,(Blk.row (es.take m) fz).mut L o↔(Blk.row es fz).mut L o:=fun _ _=>Iff.rfl
 have hM:MT X (setS σ' b (.row (es.take m) fz)) β'=MT X σ' β':=funext fun g=>funext fun o=>propext (by unfold MT;rw [Zcn hb hm])
 refine ⟨osOf r,_,β',v,w',q,g1.reblk hb hm (fun M L hL hok=>?_),by rw [hM];exact Zug g2,⟨g3.os,g3.tape,g3.output,g3.size,g3.cell,g3.block,fun g o hx=>g3.newM g o ((Zcn hb hm).1 hx),g3.env⟩,by rw [Zdb hb];exact g4,g5⟩
 obtain ⟨c,e,k1,k2,k3,k4,k5⟩:=hok
 have hg:∀ i,i<(es.take m).length→(es.take m).getD i AVal.undef=es.getD i .undef:=fun i hi=>by
  rw [List.length_take] at hi
  simp [List.getD,show i<m by omega]
 have hl:(es.take m).length≤es.length:=by rw [List.length_take];omega
 exact ⟨c,e,k1,k2,by omega,fun i hi=>by rw [hg i hi];exact k4 i (by omega),fun i j hi hj=>by rw [hg i hi];exact k5 i j (by omega) hj⟩
theorem CallSh.beginD {g:FuncId} {fn:Func} {c:Code} {args:List AVal} {K:AVal→Store→Prop} {m:Nat} {rs:List ResultVar} (n:Nat) (hf:P.funcs[g]? = some fn) (hb:fn.body=some c) (hr:fn.results.toList=rs) (hm:fn.ntmps - args.length=m)
  (hname : (fn.name == "runtime.NumGoroutine") = false)
  (h:vcK P ⟨σ.length,none⟩ (retQ P rs (dropK K σ.length)) n [.code c] .normal (args++List.replicate m .undef) σ):CallSh P g args σ K:=CallSh.drop (CallSh.start n hf hb hr hm hname h)
theorem Zvc {K:AVal→Store→Prop} {b:Nat} {r:AVal} {σ':Store}:shortK K b r σ' = ∃ es fz m,getS σ' b=some (.row es fz)∧K (osOf r) (setS σ' b (.row (es.take m) fz)):=rfl
end
end Go.Abs
