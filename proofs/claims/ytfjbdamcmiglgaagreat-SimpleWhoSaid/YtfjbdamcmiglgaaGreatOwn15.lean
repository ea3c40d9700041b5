/- Part 15 of my own framework and of the walks of functions: AbsP. -/
import Derived.Test.YtfjbdamcmiglgaaGreatOwn14
abbrev dk:=@List.getElem?_cons_succ
abbrev gY:=@List.range'_succ
abbrev d_:=@Nat.sub_self
set_option linter.unusedVariables false
set_option linter.unusedSectionVars false
set_option linter.unusedSimpArgs false
namespace Go.c8
open Go
inductive KI where
 | code (c:Code)
 | ops (all:Array Oper) (l:List Oper)
 | cd (id:Nat)
 | zt
 | BR
def jN:List KI→Bool
 | []=>false
 | .BR :: _=>true
 | _ :: k=>jN k
def sg (P:Program) (f:ae) (args:List ae) (σ:ai) (K:ae→ai→Prop) (Kp:Value→ai→Prop):Prop :=
 aq P f args σ K∨EK P f args σ fun r σ'=>∃ u,yL r=some u∧Kp u σ'
def AY (all:Array Oper) (l:List Oper):Prop:=l.length≤all.size∧∀ j:Nat,l[j]? = all[all.size - l.length+j]?
theorem AY.all (a:Array Oper):AY a a.toList:=⟨by simp,fun j=>by simp⟩
theorem AY.tail {a:Array Oper} {o:Oper} {l:List Oper} (h:AY a (o :: l)):AY a l∧a[a.size - (l.length+1)]? = some o∧l.length+1≤a.size:=by
 obtain ⟨h1,h2⟩:=h
 simp only [ax] at h1 h2
 refine ⟨⟨by omega,fun j=>?_⟩,?_,h1⟩
 ·have:=h2 (j+1)
  rw [dk] at this
  rw [this];congr 1;omega
 ·have:=h2 0
  simpa using this.symm
def aK (P:Program) (lo:Ctx) (Q:b9→St→Prop):List KI→b9→St→Prop
 | [],e,st=>Q e st
 | .code c :: k,e,st=>match e with
  | .normal=>ib P lo c st (fun e s=>aK P lo Q k e s)
  | e=>aK P lo Q k e st
 | .ops all l :: k,e,st=>match e with
  | .normal=>AY all l→lY P lo all [] (List.range' (all.size - l.length) l.length) st (fun e s=>aK P lo Q k e s)
  | e=>aK P lo Q k e st
 | .cd id :: k,e,st=>match e with
  | .exit uJ=>if uJ=id then aK P lo Q k .normal st else aK P lo Q k (.exit uJ) st
  | e=>aK P lo Q k e st
 | .zt :: k,e,st=>(∀ l,e≠.goto l)∧aK P lo Q k e st
 | .BR :: k,e,st=>aK P lo Q k e st
def nextQ (a:ae) (σ:ai) (K:ae→ai→Prop):Prop :=
 ∃ b ks vs seen,a = .it b∧bG σ b=some (.kZ ks vs seen)∧(∀ j,j<ks.length→j ∉ seen→K (.dz [.bool true,ks.getD j .undef,vs.getD j .undef]) (bZ σ b (.kZ ks vs (seen++[j])))) ∧
  ((∀ j,j<ks.length→j∈seen)→K (.dz [.bool false]) σ)
mutual
def dT (P:Program) (lo:Ctx) (Q:b9→St→Prop):Nat→List KI→b9→List ae→ai→Prop
 | 0,_,_,_,_=>False
 | _+1,[],e,tm,σ=>Q e ⟨tm,σ⟩
 | n+1, .code c :: k, .normal,tm,σ=>match c with
  | .skip=>dT P lo Q n k .normal tm σ
  | .seq a b=>dT P lo Q n (.code a :: .code b :: k) .normal tm σ
  | .cond c a b=>y8 P lo Q n (ev tm c) a b k tm σ
  | .block id c=>dT P lo Q n (.code c :: .cd id :: k) .normal tm σ
  | .region id ops draw=>if draw=true then aK P lo Q (.code (.region id ops true) :: k) .normal ⟨tm,σ⟩ else dT P lo Q n (.ops ops ops.toList :: k) .normal tm σ
  | .exit id=>dT P lo Q n k (.exit id) tm σ
  | .ret=>dT P lo Q n k .ret tm σ
  | .scope c=>dT P lo Q n (.code c :: .zt :: k) .normal tm σ
  | .label _=>dT P lo Q n k .normal tm σ
  | .loop c=>aK P lo Q (.code (.loop c) :: k) .normal ⟨tm,σ⟩
  | .rangeFunc f ps a b=>aK P lo Q (.code (.rangeFunc f ps a b) :: k) .normal ⟨tm,σ⟩
  | .goto l=>dT P lo Q n k (.goto l) tm σ
  | .refuse _=>False
 | n+1, .code _ :: k,e,tm,σ=>dT P lo Q n k e tm σ
 | n+1, .ops _ [] :: k, .normal,tm,σ=>dT P lo Q n k .normal tm σ
 | n+1, .ops all (o :: l) :: k, .normal,tm,σ=>y9 P lo Q n (mc all tm o) all o l k tm σ
 | n+1, .ops _ _ :: k,e,tm,σ=>dT P lo Q n k e tm σ
 | n+1, .cd id :: k, .exit uJ,tm,σ=>if uJ=id then dT P lo Q n k .normal tm σ else dT P lo Q n k (.exit uJ) tm σ
 | n+1, .cd _ :: k,e,tm,σ=>dT P lo Q n k e tm σ
 | n+1, .zt :: k,e,tm,σ=>match e with
  | .goto _=>False
  | e=>dT P lo Q n k e tm σ
 | n+1, .BR :: k,e,tm,σ=>dT P lo Q n k e tm σ
def y8 (P:Program) (lo:Ctx) (Q:b9→St→Prop):Nat→ae→Code→Code→List KI→List ae→ai→Prop
 | 0,_,_,_,_,_,_=>False
 | n+1, .bool t,a,b,k,tm,σ=>(t=true→dT P lo Q n (.code a :: k) .normal tm σ)∧(t=false→dT P lo Q n (.code b :: k) .normal tm σ)
 | n+1, .gZ,a,b,k,tm,σ=>dT P lo Q n (.code a :: k) .normal tm σ∧dT P lo Q n (.code b :: k) .normal tm σ
 | _+1,_,_,_,_,_,_=>False
def y9 (P:Program) (lo:Ctx) (Q:b9→St→Prop):Nat→Option Bool→Array Oper→Oper→List Oper→List KI→List ae→ai→Prop
 | 0,_,_,_,_,_,_,_=>False
 | n+1,some g,all,o,l,k,tm,σ=>(g=true→mA P lo Q n o all l k tm σ)∧(g=false→dT P lo Q n (.ops all l :: k) .normal (put tm o.dst gone) σ)
 | _+1,none,_,_,_,_,_,_=>False
def mA (P:Program) (lo:Ctx) (Q:b9→St→Prop):Nat→Oper→Array Oper→List Oper→List KI→List ae→ai→Prop
 | 0,_,_,_,_,_,_=>False
 | n+1,o,all,l,k,tm,σ=>match o.op with
  | .call { callee:=.value f,args, .. }=>if jN k=true then sg P (ev tm f) (args.toList.map (ev tm)) σ (fun r σ'=>aK P lo Q (.ops all l :: k) .normal ⟨put tm o.dst r,σ'⟩) (fun u σ'=>aK P lo Q k (.panic u) ⟨tm,σ'⟩)
   else aq P (ev tm f) (args.toList.map (ev tm)) σ fun r σ'=>aK P lo Q (.ops all l :: k) .normal ⟨put tm o.dst r,σ'⟩
  | .panic x=>∃ u,yL (ev tm x)=some u∧aK P lo Q k (.panic u) ⟨tm,σ⟩
  | .next x false=>nextQ (ev tm x) σ fun r σ'=>aK P lo Q (.ops all l :: k) .normal ⟨put tm o.dst r,σ'⟩
  | op=>lS P lo Q n (cY P σ σ.length (ev tm) op) o.dst all l k tm
def lS (P:Program) (lo:Ctx) (Q:b9→St→Prop):Nat→Option (ae×ai)→Option Tmp→Array Oper→List Oper→List KI→List ae→Prop
 | 0,_,_,_,_,_,_=>False
 | n+1,some (r,σ'),dst,all,l,k,tm=>dT P lo Q n (.ops all l :: k) .normal (put tm dst r) σ'
 | _+1,none,_,_,_,_,_=>False
end
section
variable {P:Program} {lo:Ctx} {Q:b9→St→Prop}
theorem Yqw {k:List KI} {e:b9} {s:St}:aK P lo Q (.BR :: k) e s↔aK P lo Q k e s:=by cases e<;>exact Iff.rfl
theorem Rm {all:Array Oper} {o:Oper} {l:List Oper} {k:List KI} {s:St} (hg:mc all s.tm o=some true) {f:Operand} {args:Array Operand} {ts:Array TypeId} (hop:o.op = .call { callee:=.value f,args,argTypes:=ts })
  (h:sg P (ev s.tm f) (args.toList.map (ev s.tm)) s.σ (fun r σ'=>aK P lo Q (.ops all l :: k) .normal ⟨put s.tm o.dst r,σ'⟩) (fun u σ'=>aK P lo Q k (.panic u) ⟨s.tm,σ'⟩)):aK P lo Q (.ops all (o :: l) :: k) .normal s:=by
 intro hs
 obtain ⟨h1,h2,h3⟩:=hs.tail
 rw [ax,gY]
 rcases h with h | h
 ·refine lY.call h2 hg hop (h.mono fun r σ' q=>?_)
  have:=q h1
  rwa [show all.size - l.length=all.size - (l.length+1)+1 by omega] at this
 ·exact lY.pan h2 hg hop h
theorem Ykh {all:Array Oper} {o:Oper} {l:List Oper} {k:List KI} {s:St} (hg:mc all s.tm o=some true) {x:Operand} (hop:o.op = .next x false)
  (h:nextQ (ev s.tm x) s.σ fun r σ'=>aK P lo Q (.ops all l :: k) .normal ⟨put s.tm o.dst r,σ'⟩):aK P lo Q (.ops all (o :: l) :: k) .normal s:=by
 intro hs
 obtain ⟨h1,h2,h3⟩:=hs.tail
 rw [ax,gY]
 obtain ⟨b,ks,vs,seen,e1,e2,e3,e4⟩:=h
 have e:all.size - l.length=all.size - (l.length+1)+1:=by omega
 refine lY.GY h2 hg hop e1 e2 (fun j hj hn=>?_) fun eK=>?_
 ·have:=e3 j hj hn h1
  rwa [e] at this
 ·have:=e4 eK h1
  rwa [e] at this
theorem XO {all:Array Oper} {o:Oper} {l:List Oper} {k:List KI} {s:St} (hg:mc all s.tm o=some true) {x:Operand} (hop:o.op = .panic x) {u:Value} (hu:yL (ev s.tm x)=some u)
  (h:aK P lo Q k (.panic u) s):aK P lo Q (.ops all (o :: l) :: k) .normal s:=by
 intro hs
 obtain ⟨h1,h2,h3⟩:=hs.tail
 rw [ax,gY]
 exact lY.panic h2 hg hop hu h
theorem YN {id:Nat} {c:Code} {k:List KI} {s:St} (h:aK P lo Q (.code c :: .cd id :: k) .normal s):aK P lo Q (.code (.block id c) :: k) .normal s:=by
 refine ib.block (ib.mono h fun e s q=>?_)
 cases e with
 | exit uJ =>
  simp only [aK] at q
  simp only [b9.inBlock]
  split at q
  ·rename_i e;rw [if_pos e];exact q
  ·rename_i e;rw [if_neg e];exact q
 | _=>exact q
theorem Yql {a b:Code} {k:List KI} {s:St} (h:aK P lo Q (.code a :: .code b :: k) .normal s):aK P lo Q (.code (.seq a b) :: k) .normal s:=by
 refine ib.seq (ib.mono h fun e s q=>?_)
 cases e<;>exact q
theorem Yf {c:Code} {k:List KI} {s:St} (h:aK P lo Q (.code c :: .zt :: k) .normal s):aK P lo Q (.code (.scope c) :: k) .normal s :=
 ib.scope (ib.mono h fun _ _ q=>q)
theorem Zzl {id:Nat} {ops:Array Oper} {k:List KI} {s:St} (h:aK P lo Q (.ops ops ops.toList :: k) .normal s):aK P lo Q (.code (.region id ops false) :: k) .normal s:=by
 have:=h (AY.all ops)
 simp only [bA,d_] at this
 rw [← List.range_eq_range'] at this
 exact lY.region this
theorem Yw0 {all:Array Oper} {o:Oper} {l:List Oper} {k:List KI} {s:St} (hg:mc all s.tm o=some true) (h:vM P o s fun s'=>aK P lo Q (.ops all l :: k) .normal s'):aK P lo Q (.ops all (o :: l) :: k) .normal s:=by
 intro hs
 obtain ⟨h1,h2,h3⟩:=hs.tail
 rw [ax,gY]
 refine lY.G0 h2 hg (Yg h fun s' q=>?_)
 have:=q h1
 rwa [show all.size - l.length=all.size - (l.length+1)+1 by omega] at this
theorem Zyd {all:Array Oper} {o:Oper} {l:List Oper} {k:List KI} {s:St} (hg:mc all s.tm o=some false) (h:aK P lo Q (.ops all l :: k) .normal ⟨put s.tm o.dst gone,s.σ⟩):aK P lo Q (.ops all (o :: l) :: k) .normal s:=by
 intro hs
 obtain ⟨h1,h2,h3⟩:=hs.tail
 rw [ax,gY]
 refine lY.Cn h2 hg ?_
 have:=h h1
 rwa [show all.size - l.length=all.size - (l.length+1)+1 by omega] at this
theorem B5:∀ n,(∀ k e tm σ,dT P lo Q n k e tm σ→aK P lo Q k e ⟨tm,σ⟩):=by
 intro n
 induction n using Nat.strongRecOn with
 | _ n ih =>
 intro k e tm σ h
 match n,ih with
 | 0,_=>simp [dT] at h
 | n+1,ih =>
 have kA:∀ k e tm σ,dT P lo Q n k e tm σ→aK P lo Q k e ⟨tm,σ⟩:=ih n (by omega)
 match k with
 | []=>exact h
 | .code c :: k =>
  cases e with
  | normal =>
   simp only [dT] at h
   cases c with
   | skip=>exact ib.skip (Q:=fun e s=>aK P lo Q k e s) (kA _ _ _ _ h)
   | seq a b=>exact Yql (kA _ _ _ _ h)
   | cond c a b =>
    simp only at h
    match n,h,ih with
    | 0,h,_=>simp [y8] at h
    | n+1,h,ih =>
     have oA:∀ k e tm σ,dT P lo Q n k e tm σ→aK P lo Q k e ⟨tm,σ⟩:=ih n (by omega)
     cases hv:ev tm c<;>rw [hv] at h<;>simp only [y8] at h
     ·exact ib.cond (Q:=fun e s=>aK P lo Q k e s) (st:=⟨tm,σ⟩) hv (fun ht=>oA (.code a :: k) .normal tm σ (h.1 ht)) (fun ht=>oA (.code b :: k) .normal tm σ (h.2 ht))
     ·exact ib.z_ (Q:=fun e s=>aK P lo Q k e s) (st:=⟨tm,σ⟩) hv (oA (.code a :: k) .normal tm σ h.1) (oA (.code b :: k) .normal tm σ h.2)
   | block id c=>exact YN (kA _ _ _ _ h)
   | region id ops draw =>
    simp only at h
    split at h
    ·rename_i hd;rw [hd];exact h
    ·rename_i hd
     simp only [da] at hd
     rw [hd]
     exact Zzl (kA _ _ _ _ h)
   | exit id=>exact ib.exit (Q:=fun e s=>aK P lo Q k e s) (kA _ _ _ _ h)
   | ret=>exact ib.ret (Q:=fun e s=>aK P lo Q k e s) (kA _ _ _ _ h)
   | scope c=>exact Yf (kA _ _ _ _ h)
   | label l=>exact ib.label (Q:=fun e s=>aK P lo Q k e s) (kA _ _ _ _ h)
   | loop c=>exact h
   | rangeFunc f ps a b=>exact h
   | goto l=>exact ib.goto (Q:=fun e s=>aK P lo Q k e s) (kA _ _ _ _ h)
   | refuse w=>exact h.elim
  | exit id=>simp only [dT] at h;exact (kA k _ _ _ h:aK P lo Q k _ ⟨tm,σ⟩)
  | goto id=>simp only [dT] at h;exact (kA k _ _ _ h:aK P lo Q k _ ⟨tm,σ⟩)
  | ret=>simp only [dT] at h;exact (kA k _ _ _ h:aK P lo Q k _ ⟨tm,σ⟩)
  | panic u=>simp only [dT] at h;exact (kA k _ _ _ h:aK P lo Q k _ ⟨tm,σ⟩)
 | .ops all l :: k =>
  cases e with
  | normal =>
   match l with
   | [] =>
    simp only [dT] at h
    intro _
    exact lY.nil (kA _ _ _ _ h)
   | o :: l =>
    simp only [dT] at h
    match n,h,ih with
    | 0,h,_=>simp [y9] at h
    | n+1,h,ih =>
     cases hg:mc all tm o with
     | none=>rw [hg] at h;simp [y9] at h
     | some g =>
      rw [hg] at h
      simp only [y9] at h
      cases g with
      | false=>exact Zyd hg (ih n (by omega) _ _ _ _ (h.2 rfl))
      | true =>
       have h1:=h.1 rfl
       match n,h1,ih with
       | 0,h1,_=>simp [mA] at h1
       | n+1,h1,ih =>
        simp only [mA] at h1
        split at h1
        ·rename_i f args ts hop
         split at h1
         ·exact Rm hg hop h1
         ·exact Rm hg hop (.inl h1)
        ·rename_i x hop
         obtain ⟨u,hu,h1⟩:=h1
         exact XO hg hop hu h1
        ·rename_i x hop
         exact Ykh hg hop h1
        ·rename_i op eg _ _
         refine Yw0 hg ?_
         unfold vM
         split
         ·rename_i f args ts hop
          exact absurd hop (eg _ _ _)
         ·match n,h1,ih with
          | 0,h1,_=>simp [lS] at h1
          | n+1,h1,ih =>
           cases hE:cY P σ σ.length (ev tm) o.op with
           | none=>rw [hE] at h1;simp [lS] at h1
           | some x =>
            obtain ⟨r,σ'⟩:=x
            rw [hE] at h1
            simp only [lS] at h1
            exact ⟨r,σ',rfl,ih n (by omega) _ _ _ _ h1⟩
  | exit id=>cases l<;>(simp only [dT] at h;exact (kA k _ _ _ h:aK P lo Q k _ ⟨tm,σ⟩))
  | goto id=>cases l<;>(simp only [dT] at h;exact (kA k _ _ _ h:aK P lo Q k _ ⟨tm,σ⟩))
  | ret=>cases l<;>(simp only [dT] at h;exact (kA k _ _ _ h:aK P lo Q k _ ⟨tm,σ⟩))
  | panic u=>cases l<;>(simp only [dT] at h;exact (kA k _ _ _ h:aK P lo Q k _ ⟨tm,σ⟩))
 | .cd id :: k =>
  cases e with
  | exit uJ =>
   simp only [dT] at h
   simp only [aK]
   split at h
   ·rename_i e;rw [if_pos e];exact kA _ _ _ _ h
   ·rename_i e;rw [if_neg e];exact kA _ _ _ _ h
  | normal=>simp only [dT] at h;exact (kA k _ _ _ h:aK P lo Q k _ ⟨tm,σ⟩)
  | goto id=>simp only [dT] at h;exact (kA k _ _ _ h:aK P lo Q k _ ⟨tm,σ⟩)
  | ret=>simp only [dT] at h;exact (kA k _ _ _ h:aK P lo Q k _ ⟨tm,σ⟩)
  | panic u=>simp only [dT] at h;exact (kA k _ _ _ h:aK P lo Q k _ ⟨tm,σ⟩)
 | .BR :: k =>
  have h:dT P lo Q n k e tm σ:=by cases e<;>simpa only [dT] using h
  exact Yqw.2 (kA k _ _ _ h)
 | .zt :: k =>
  cases e with
  | goto l=>simp only [dT] at h
  | normal=>simp only [dT] at h;exact (⟨by simp,kA k _ _ _ h⟩:(∀ l,b9.normal≠.goto l)∧aK P lo Q k .normal ⟨tm,σ⟩)
  | exit id=>simp only [dT] at h;exact (⟨by simp,kA k _ _ _ h⟩:(∀ l,b9.exit id≠.goto l)∧aK P lo Q k (.exit id) ⟨tm,σ⟩)
  | ret=>simp only [dT] at h;exact (⟨by simp,kA k _ _ _ h⟩:(∀ l,b9.ret≠.goto l)∧aK P lo Q k .ret ⟨tm,σ⟩)
  | panic u=>simp only [dT] at h;exact (⟨by simp,kA k _ _ _ h⟩:(∀ l,b9.panic u≠.goto l)∧aK P lo Q k (.panic u) ⟨tm,σ⟩)
theorem aK.go (n:Nat) {k:List KI} {e:b9} {tm:List ae} {σ:ai} (h:dT P lo Q n k e tm σ):aK P lo Q k e ⟨tm,σ⟩:=B5 n k e tm σ h
theorem aK.loop {ι:Type} (I : ι→St) (μ : ι→Nat) {c:Code} {k:List KI} {st:St} (x0 : ι) (h0:(I x0).le st) (iJ:∀ x,lo.n≤(I x).σ.length)
  (round:∀ x,aK P lo (b9.then (fun s=>∃ y,(I y).le s∧μ y < μ x) (fun e s=>aK P lo Q k e s)) [.code c] .normal (I x)):aK P lo Q (.code (.loop c) :: k) .normal st :=
 ib.loop I μ x0 h0 iJ fun x=>ib.mono (round x) fun e s q=>q
end
end Go.c8
