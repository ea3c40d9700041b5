/- Part 15 of my own framework and of the walks of functions: AbsP. -/
import Derived.Test.YtpgnahcljlclcaaGreatOwn14
set_option linter.unusedVariables false
set_option linter.unusedSectionVars false
set_option linter.unusedSimpArgs false
namespace Go.Abs
open Go
inductive KI where
 | code (c:Code)
 | ops (all:Array Oper) (l:List Oper)
 | blk (id:Nat)
 | scp
 | thr
def hasThr:List KI→Bool
 | []=>false
 | .thr :: _=>true
 | _ :: k=>hasThr k
def CallOr (P:Program) (f:AVal) (args:List AVal) (σ:Store) (K:AVal→Store→Prop) (Kp:Value→Store→Prop):Prop :=
 VCall P f args σ K∨VPan P f args σ fun r σ'=>∃ u,pvV r=some u∧Kp u σ'
def Suf (all:Array Oper) (l:List Oper):Prop:=l.length≤all.size∧∀ j:Nat,l[j]? = all[all.size - l.length+j]?
theorem Suf.all (a:Array Oper):Suf a a.toList:=⟨by simp,fun j=>by simp⟩
theorem Suf.tail {a:Array Oper} {o:Oper} {l:List Oper} (h:Suf a (o :: l)):Suf a l∧a[a.size - (l.length+1)]? = some o∧l.length+1≤a.size:=by
 obtain ⟨h1,h2⟩:=h
 simp only [List.length_cons] at h1 h2
 refine ⟨⟨by omega,fun j=>?_⟩,?_,h1⟩
 ·have:=h2 (j+1)
  rw [List.getElem?_cons_succ] at this
  rw [this];congr 1;omega
 ·have:=h2 0
  simpa using this.symm
def EvK (P:Program) (lo:Ctx) (Q:AExit→St→Prop):List KI→AExit→St→Prop
 | [],e,st=>Q e st
 | .code c :: k,e,st=>match e with
  | .normal=>EvS P lo c st (fun e s=>EvK P lo Q k e s)
  | e=>EvK P lo Q k e st
 | .ops all l :: k,e,st=>match e with
  | .normal=>Suf all l→EvR P lo all [] (List.range' (all.size - l.length) l.length) st (fun e s=>EvK P lo Q k e s)
  | e=>EvK P lo Q k e st
 | .blk id :: k,e,st=>match e with
  | .exit id'=>if id'=id then EvK P lo Q k .normal st else EvK P lo Q k (.exit id') st
  | e=>EvK P lo Q k e st
 | .scp :: k,e,st=>(∀ l,e≠.goto l)∧EvK P lo Q k e st
 | .thr :: k,e,st=>EvK P lo Q k e st
def nextQ (a:AVal) (σ:Store) (K:AVal→Store→Prop):Prop :=
 ∃ b ks vs seen,a = .it b∧getS σ b=some (.mit ks vs seen)∧(∀ j,j<ks.length→j ∉ seen→K (.tup [.bool true,ks.getD j .undef,vs.getD j .undef]) (setS σ b (.mit ks vs (seen++[j])))) ∧
  ((∀ j,j<ks.length→j∈seen)→K (.tup [.bool false]) σ)
mutual
def vcK (P:Program) (lo:Ctx) (Q:AExit→St→Prop):Nat→List KI→AExit→List AVal→Store→Prop
 | 0,_,_,_,_=>False
 | _+1,[],e,tm,σ=>Q e ⟨tm,σ⟩
 | n+1, .code c :: k, .normal,tm,σ=>match c with
  | .skip=>vcK P lo Q n k .normal tm σ
  | .seq a b=>vcK P lo Q n (.code a :: .code b :: k) .normal tm σ
  | .cond c a b=>goC P lo Q n (ev tm c) a b k tm σ
  | .block id c=>vcK P lo Q n (.code c :: .blk id :: k) .normal tm σ
  | .region id ops draw=>if draw=true then EvK P lo Q (.code (.region id ops true) :: k) .normal ⟨tm,σ⟩ else vcK P lo Q n (.ops ops ops.toList :: k) .normal tm σ
  | .exit id=>vcK P lo Q n k (.exit id) tm σ
  | .ret=>vcK P lo Q n k .ret tm σ
  | .scope c=>vcK P lo Q n (.code c :: .scp :: k) .normal tm σ
  | .label _=>vcK P lo Q n k .normal tm σ
  | .loop c=>EvK P lo Q (.code (.loop c) :: k) .normal ⟨tm,σ⟩
  | .rangeFunc f ps a b=>EvK P lo Q (.code (.rangeFunc f ps a b) :: k) .normal ⟨tm,σ⟩
  | .goto l=>vcK P lo Q n k (.goto l) tm σ
  | .refuse _=>False
 | n+1, .code _ :: k,e,tm,σ=>vcK P lo Q n k e tm σ
 | n+1, .ops _ [] :: k, .normal,tm,σ=>vcK P lo Q n k .normal tm σ
 | n+1, .ops all (o :: l) :: k, .normal,tm,σ=>goG P lo Q n (gdA all tm o) all o l k tm σ
 | n+1, .ops _ _ :: k,e,tm,σ=>vcK P lo Q n k e tm σ
 | n+1, .blk id :: k, .exit id',tm,σ=>if id'=id then vcK P lo Q n k .normal tm σ else vcK P lo Q n k (.exit id') tm σ
 | n+1, .blk _ :: k,e,tm,σ=>vcK P lo Q n k e tm σ
 | n+1, .scp :: k,e,tm,σ=>match e with
  | .goto _=>False
  | e=>vcK P lo Q n k e tm σ
 | n+1, .thr :: k,e,tm,σ=>vcK P lo Q n k e tm σ
def goC (P:Program) (lo:Ctx) (Q:AExit→St→Prop):Nat→AVal→Code→Code→List KI→List AVal→Store→Prop
 | 0,_,_,_,_,_,_=>False
 | n+1, .bool t,a,b,k,tm,σ=>(t=true→vcK P lo Q n (.code a :: k) .normal tm σ)∧(t=false→vcK P lo Q n (.code b :: k) .normal tm σ)
 | n+1, .anyb,a,b,k,tm,σ=>vcK P lo Q n (.code a :: k) .normal tm σ∧vcK P lo Q n (.code b :: k) .normal tm σ
 | _+1,_,_,_,_,_,_=>False
def goG (P:Program) (lo:Ctx) (Q:AExit→St→Prop):Nat→Option Bool→Array Oper→Oper→List Oper→List KI→List AVal→Store→Prop
 | 0,_,_,_,_,_,_,_=>False
 | n+1,some g,all,o,l,k,tm,σ=>(g=true→goO P lo Q n o all l k tm σ)∧(g=false→vcK P lo Q n (.ops all l :: k) .normal (put tm o.dst gone) σ)
 | _+1,none,_,_,_,_,_,_=>False
def goO (P:Program) (lo:Ctx) (Q:AExit→St→Prop):Nat→Oper→Array Oper→List Oper→List KI→List AVal→Store→Prop
 | 0,_,_,_,_,_,_=>False
 | n+1,o,all,l,k,tm,σ=>match o.op with
  | .call { callee:=.value f,args, .. }=>if hasThr k=true then CallOr P (ev tm f) (args.toList.map (ev tm)) σ (fun r σ'=>EvK P lo Q (.ops all l :: k) .normal ⟨put tm o.dst r,σ'⟩) (fun u σ'=>EvK P lo Q k (.panic u) ⟨tm,σ'⟩)
   else VCall P (ev tm f) (args.toList.map (ev tm)) σ fun r σ'=>EvK P lo Q (.ops all l :: k) .normal ⟨put tm o.dst r,σ'⟩
  | .panic x=>∃ u,pvV (ev tm x)=some u∧EvK P lo Q k (.panic u) ⟨tm,σ⟩
  | .next x false=>nextQ (ev tm x) σ fun r σ'=>EvK P lo Q (.ops all l :: k) .normal ⟨put tm o.dst r,σ'⟩
  | op=>goR P lo Q n (opE P σ σ.length (ev tm) op) o.dst all l k tm
def goR (P:Program) (lo:Ctx) (Q:AExit→St→Prop):Nat→Option (AVal×Store)→Option Tmp→Array Oper→List Oper→List KI→List AVal→Prop
 | 0,_,_,_,_,_,_=>False
 | n+1,some (r,σ'),dst,all,l,k,tm=>vcK P lo Q n (.ops all l :: k) .normal (put tm dst r) σ'
 | _+1,none,_,_,_,_,_=>False
end
section
variable {P:Program} {lo:Ctx} {Q:AExit→St→Prop}
theorem Ylt {k:List KI} {e:AExit} {s:St}:EvK P lo Q (.thr :: k) e s↔EvK P lo Q k e s:=by cases e<;>exact Iff.rfl
theorem Zm3 {all:Array Oper} {o:Oper} {l:List Oper} {k:List KI} {s:St} (hg:gdA all s.tm o=some true) {f:Operand} {args:Array Operand} {ts:Array TypeId} (hop:o.op = .call { callee:=.value f,args,argTypes:=ts })
  (h:CallOr P (ev s.tm f) (args.toList.map (ev s.tm)) s.σ (fun r σ'=>EvK P lo Q (.ops all l :: k) .normal ⟨put s.tm o.dst r,σ'⟩) (fun u σ'=>EvK P lo Q k (.panic u) ⟨s.tm,σ'⟩)):EvK P lo Q (.ops all (o :: l) :: k) .normal s:=by
 intro hs
 obtain ⟨h1,h2,h3⟩:=hs.tail
 rw [List.length_cons,List.range'_succ]
 rcases h with h | h
 ·refine EvR.call h2 hg hop (h.mono fun r σ' q=>?_)
  have:=q h1
  rwa [show all.size - l.length=all.size - (l.length+1)+1 by omega] at this
 ·exact EvR.pan h2 hg hop h
theorem Ygy {all:Array Oper} {o:Oper} {l:List Oper} {k:List KI} {s:St} (hg:gdA all s.tm o=some true) {x:Operand} (hop:o.op = .next x false)
  (h:nextQ (ev s.tm x) s.σ fun r σ'=>EvK P lo Q (.ops all l :: k) .normal ⟨put s.tm o.dst r,σ'⟩):EvK P lo Q (.ops all (o :: l) :: k) .normal s:=by
 intro hs
 obtain ⟨h1,h2,h3⟩:=hs.tail
 rw [List.length_cons,List.range'_succ]
 obtain ⟨b,ks,vs,seen,e1,e2,e3,e4⟩:=h
 have e:all.size - l.length=all.size - (l.length+1)+1:=by omega
 refine EvR.mnext h2 hg hop e1 e2 (fun j hj hn=>?_) fun hall=>?_
 ·have:=e3 j hj hn h1
  rwa [e] at this
 ·have:=e4 hall h1
  rwa [e] at this
theorem Yaq {all:Array Oper} {o:Oper} {l:List Oper} {k:List KI} {s:St} (hg:gdA all s.tm o=some true) {x:Operand} (hop:o.op = .panic x) {u:Value} (hu:pvV (ev s.tm x)=some u)
  (h:EvK P lo Q k (.panic u) s):EvK P lo Q (.ops all (o :: l) :: k) .normal s:=by
 intro hs
 obtain ⟨h1,h2,h3⟩:=hs.tail
 rw [List.length_cons,List.range'_succ]
 exact EvR.panic h2 hg hop hu h
theorem Ya5 {id:Nat} {c:Code} {k:List KI} {s:St} (h:EvK P lo Q (.code c :: .blk id :: k) .normal s):EvK P lo Q (.code (.block id c) :: k) .normal s:=by
 refine EvS.block (EvS.mono h fun e s q=>?_)
 cases e with
 | exit id' =>
  simp only [EvK] at q
  simp only [AExit.inBlock]
  split at q
  ·rename_i e;rw [if_pos e];exact q
  ·rename_i e;rw [if_neg e];exact q
 | _=>exact q
theorem Ykx {a b:Code} {k:List KI} {s:St} (h:EvK P lo Q (.code a :: .code b :: k) .normal s):EvK P lo Q (.code (.seq a b) :: k) .normal s:=by
 refine EvS.seq (EvS.mono h fun e s q=>?_)
 cases e<;>exact q
theorem Yd1 {c:Code} {k:List KI} {s:St} (h:EvK P lo Q (.code c :: .scp :: k) .normal s):EvK P lo Q (.code (.scope c) :: k) .normal s :=
 EvS.scope (EvS.mono h fun _ _ q=>q)
theorem Zwi {id:Nat} {ops:Array Oper} {k:List KI} {s:St} (h:EvK P lo Q (.ops ops ops.toList :: k) .normal s):EvK P lo Q (.code (.region id ops false) :: k) .normal s:=by
 have:=h (Suf.all ops)
 simp only [Array.length_toList,Nat.sub_self] at this
 rw [← List.range_eq_range'] at this
 exact EvR.region this
theorem Yrq {all:Array Oper} {o:Oper} {l:List Oper} {k:List KI} {s:St} (hg:gdA all s.tm o=some true) (h:vcOp P o s fun s'=>EvK P lo Q (.ops all l :: k) .normal s'):EvK P lo Q (.ops all (o :: l) :: k) .normal s:=by
 intro hs
 obtain ⟨h1,h2,h3⟩:=hs.tail
 rw [List.length_cons,List.range'_succ]
 refine EvR.of_op h2 hg (Yam h fun s' q=>?_)
 have:=q h1
 rwa [show all.size - l.length=all.size - (l.length+1)+1 by omega] at this
theorem Zxy {all:Array Oper} {o:Oper} {l:List Oper} {k:List KI} {s:St} (hg:gdA all s.tm o=some false) (h:EvK P lo Q (.ops all l :: k) .normal ⟨put s.tm o.dst gone,s.σ⟩):EvK P lo Q (.ops all (o :: l) :: k) .normal s:=by
 intro hs
 obtain ⟨h1,h2,h3⟩:=hs.tail
 rw [List.length_cons,List.range'_succ]
 refine EvR.absent h2 hg ?_
 have:=h h1
 rwa [show all.size - l.length=all.size - (l.length+1)+1 by omega] at this
theorem Zdl:∀ n,(∀ k e tm σ,vcK P lo Q n k e tm σ→EvK P lo Q k e ⟨tm,σ⟩):=by
 intro n
 induction n using Nat.strongRecOn with
 | _ n ih =>
 intro k e tm σ h
 match n,ih with
 | 0,_=>simp [vcK] at h
 | n+1,ih =>
 have ih1:∀ k e tm σ,vcK P lo Q n k e tm σ→EvK P lo Q k e ⟨tm,σ⟩:=ih n (by omega)
 match k with
 | []=>exact h
 | .code c :: k =>
  cases e with
  | normal =>
   simp only [vcK] at h
   cases c with
   | skip=>exact EvS.skip (Q:=fun e s=>EvK P lo Q k e s) (ih1 _ _ _ _ h)
   | seq a b=>exact Ykx (ih1 _ _ _ _ h)
   | cond c a b =>
    simp only at h
    match n,h,ih with
    | 0,h,_=>simp [goC] at h
    | n+1,h,ih =>
     have ih2:∀ k e tm σ,vcK P lo Q n k e tm σ→EvK P lo Q k e ⟨tm,σ⟩:=ih n (by omega)
     cases hv:ev tm c<;>rw [hv] at h<;>simp only [goC] at h
     ·exact EvS.cond (Q:=fun e s=>EvK P lo Q k e s) (st:=⟨tm,σ⟩) hv (fun ht=>ih2 (.code a :: k) .normal tm σ (h.1 ht)) (fun ht=>ih2 (.code b :: k) .normal tm σ (h.2 ht))
     ·exact EvS.condAny (Q:=fun e s=>EvK P lo Q k e s) (st:=⟨tm,σ⟩) hv (ih2 (.code a :: k) .normal tm σ h.1) (ih2 (.code b :: k) .normal tm σ h.2)
   | block id c=>exact Ya5 (ih1 _ _ _ _ h)
   | region id ops draw =>
    simp only at h
    split at h
    ·rename_i hd;rw [hd];exact h
    ·rename_i hd
     simp only [Bool.not_eq_true] at hd
     rw [hd]
     exact Zwi (ih1 _ _ _ _ h)
   | exit id=>exact EvS.exit (Q:=fun e s=>EvK P lo Q k e s) (ih1 _ _ _ _ h)
   | ret=>exact EvS.ret (Q:=fun e s=>EvK P lo Q k e s) (ih1 _ _ _ _ h)
   | scope c=>exact Yd1 (ih1 _ _ _ _ h)
   | label l=>exact EvS.label (Q:=fun e s=>EvK P lo Q k e s) (ih1 _ _ _ _ h)
   | loop c=>exact h
   | rangeFunc f ps a b=>exact h
   | goto l=>exact EvS.goto (Q:=fun e s=>EvK P lo Q k e s) (ih1 _ _ _ _ h)
   | refuse w=>exact h.elim
  | exit id=>simp only [vcK] at h;exact (ih1 k _ _ _ h:EvK P lo Q k _ ⟨tm,σ⟩)
  | goto id=>simp only [vcK] at h;exact (ih1 k _ _ _ h:EvK P lo Q k _ ⟨tm,σ⟩)
  | ret=>simp only [vcK] at h;exact (ih1 k _ _ _ h:EvK P lo Q k _ ⟨tm,σ⟩)
  | panic u=>simp only [vcK] at h;exact (ih1 k _ _ _ h:EvK P lo Q k _ ⟨tm,σ⟩)
 | .ops all l :: k =>
  cases e with
  | normal =>
   match l with
   | [] =>
    simp only [vcK] at h
    intro _
    exact EvR.nil (ih1 _ _ _ _ h)
   | o :: l =>
    simp only [vcK] at h
    match n,h,ih with
    | 0,h,_=>simp [goG] at h
    | n+1,h,ih =>
     cases hg:gdA all tm o with
     | none=>rw [hg] at h;simp [goG] at h
     | some g =>
      rw [hg] at h
      simp only [goG] at h
      cases g with
      | false=>exact Zxy hg (ih n (by omega) _ _ _ _ (h.2 rfl))
      | true =>
       have h1:=h.1 rfl
       match n,h1,ih with
       | 0,h1,_=>simp [goO] at h1
       | n+1,h1,ih =>
        simp only [goO] at h1
        split at h1
        ·rename_i f args ts hop
         split at h1
         ·exact Zm3 hg hop h1
         ·exact Zm3 hg hop (.inl h1)
        ·rename_i x hop
         obtain ⟨u,hu,h1⟩:=h1
         exact Yaq hg hop hu h1
        ·rename_i x hop
         exact Ygy hg hop h1
        ·rename_i op hne _ _
         refine Yrq hg ?_
         unfold vcOp
         split
         ·rename_i f args ts hop
          exact absurd hop (hne _ _ _)
         ·match n,h1,ih with
          | 0,h1,_=>simp [goR] at h1
          | n+1,h1,ih =>
           cases hE:opE P σ σ.length (ev tm) o.op with
           | none=>rw [hE] at h1;simp [goR] at h1
           | some x =>
            obtain ⟨r,σ'⟩:=x
            rw [hE] at h1
            simp only [goR] at h1
            exact ⟨r,σ',rfl,ih n (by omega) _ _ _ _ h1⟩
  | exit id=>cases l<;>(simp only [vcK] at h;exact (ih1 k _ _ _ h:EvK P lo Q k _ ⟨tm,σ⟩))
  | goto id=>cases l<;>(simp only [vcK] at h;exact (ih1 k _ _ _ h:EvK P lo Q k _ ⟨tm,σ⟩))
  | ret=>cases l<;>(simp only [vcK] at h;exact (ih1 k _ _ _ h:EvK P lo Q k _ ⟨tm,σ⟩))
  | panic u=>cases l<;>(simp only [vcK] at h;exact (ih1 k _ _ _ h:EvK P lo Q k _ ⟨tm,σ⟩))
 | .blk id :: k =>
  cases e with
  | exit id' =>
   simp only [vcK] at h
   simp only [EvK]
   split at h
   ·rename_i e;rw [if_pos e];exact ih1 _ _ _ _ h
   ·rename_i e;rw [if_neg e];exact ih1 _ _ _ _ h
  | normal=>simp only [vcK] at h;exact (ih1 k _ _ _ h:EvK P lo Q k _ ⟨tm,σ⟩)
  | goto id=>simp only [vcK] at h;exact (ih1 k _ _ _ h:EvK P lo Q k _ ⟨tm,σ⟩)
  | ret=>simp only [vcK] at h;exact (ih1 k _ _ _ h:EvK P lo Q k _ ⟨tm,σ⟩)
  | panic u=>simp only [vcK] at h;exact (ih1 k _ _ _ h:EvK P lo Q k _ ⟨tm,σ⟩)
 | .thr :: k =>
  have h:vcK P lo Q n k e tm σ:=by cases e<;>simpa only [vcK] using h
  exact Ylt.2 (ih1 k _ _ _ h)
 | .scp :: k =>
  cases e with
  | goto l=>simp only [vcK] at h
  | normal=>simp only [vcK] at h;exact (⟨by simp,ih1 k _ _ _ h⟩:(∀ l,AExit.normal≠.goto l)∧EvK P lo Q k .normal ⟨tm,σ⟩)
  | exit id=>simp only [vcK] at h;exact (⟨by simp,ih1 k _ _ _ h⟩:(∀ l,AExit.exit id≠.goto l)∧EvK P lo Q k (.exit id) ⟨tm,σ⟩)
  | ret=>simp only [vcK] at h;exact (⟨by simp,ih1 k _ _ _ h⟩:(∀ l,AExit.ret≠.goto l)∧EvK P lo Q k .ret ⟨tm,σ⟩)
  | panic u=>simp only [vcK] at h;exact (⟨by simp,ih1 k _ _ _ h⟩:(∀ l,AExit.panic u≠.goto l)∧EvK P lo Q k (.panic u) ⟨tm,σ⟩)
theorem EvK.go (n:Nat) {k:List KI} {e:AExit} {tm:List AVal} {σ:Store} (h:vcK P lo Q n k e tm σ):EvK P lo Q k e ⟨tm,σ⟩:=Zdl n k e tm σ h
theorem EvK.loop {ι:Type} (I : ι→St) (μ : ι→Nat) {c:Code} {k:List KI} {st:St} (x0 : ι) (h0:(I x0).le st) (hlo:∀ x,lo.n≤(I x).σ.length)
  (round:∀ x,EvK P lo (AExit.then (fun s=>∃ y,(I y).le s∧μ y < μ x) (fun e s=>EvK P lo Q k e s)) [.code c] .normal (I x)):EvK P lo Q (.code (.loop c) :: k) .normal st :=
 EvS.loop I μ x0 h0 hlo fun x=>EvS.mono (round x) fun e s q=>q
end
end Go.Abs
