/- Part 15 of my own framework and of the walks of functions: AbsP. -/
import Derived.Test.YtfjbdamcmiglgaaGreatOwn14
abbrev dn:=@List.getElem?_cons_succ
abbrev gY:=@List.range'_succ
abbrev ei:=@Nat.sub_self
set_option linter.unusedVariables false
set_option linter.unusedSectionVars false
set_option linter.unusedSimpArgs false
namespace Go.cV
open Go
inductive KI where
 | code (c:Code)
 | ops (all:Array Oper) (l:List Oper)
 | cf (id:Nat)
 | zy
 | B0
def jN:List KI→Bool
 | []=>false
 | .B0 :: _=>true
 | _ :: k=>jN k
def sB (P:Program) (f:ae) (args:List ae) (σ:ai) (K:ae→ai→Prop) (Kp:Value→ai→Prop):Prop :=
 aq P f args σ K∨ES P f args σ fun r σ'=>∃ u,yQ r=some u∧Kp u σ'
def A4 (all:Array Oper) (l:List Oper):Prop:=l.length≤all.size∧∀ j:Nat,l[j]? = all[all.size - l.length+j]?
theorem A4.all (a:Array Oper):A4 a a.toList:=⟨by simp,fun j=>by simp⟩
theorem A4.tail {a:Array Oper} {o:Oper} {l:List Oper} (h:A4 a (o :: l)):A4 a l∧a[a.size - (l.length+1)]? = some o∧l.length+1≤a.size:=by
 obtain ⟨h1,h2⟩:=h
 simp only [au] at h1 h2
 refine ⟨⟨by omega,fun j=>?_⟩,?_,h1⟩
 ·have:=h2 (j+1)
  rw [dn] at this
  rw [this];congr 1;omega
 ·have:=h2 0
  simpa using this.symm
def aK (P:Program) (lo:Ctx) (Q:cb→St→Prop):List KI→cb→St→Prop
 | [],e,st=>Q e st
 | .code c :: k,e,st=>match e with
  | .normal=>ic P lo c st (fun e s=>aK P lo Q k e s)
  | e=>aK P lo Q k e st
 | .ops all l :: k,e,st=>match e with
  | .normal=>A4 all l→lW P lo all [] (List.range' (all.size - l.length) l.length) st (fun e s=>aK P lo Q k e s)
  | e=>aK P lo Q k e st
 | .cf id :: k,e,st=>match e with
  | .exit uW=>if uW=id then aK P lo Q k .normal st else aK P lo Q k (.exit uW) st
  | e=>aK P lo Q k e st
 | .zy :: k,e,st=>(∀ l,e≠.goto l)∧aK P lo Q k e st
 | .B0 :: k,e,st=>aK P lo Q k e st
def nextQ (a:ae) (σ:ai) (K:ae→ai→Prop):Prop :=
 ∃ b ks vs seen,a = .it b∧bF σ b=some (.kZ ks vs seen)∧(∀ j,j<ks.length→j ∉ seen→K (.dy [.bool true,ks.getD j .undef,vs.getD j .undef]) (b_ σ b (.kZ ks vs (seen++[j])))) ∧
  ((∀ j,j<ks.length→j∈seen)→K (.dy [.bool false]) σ)
mutual
def dW (P:Program) (lo:Ctx) (Q:cb→St→Prop):Nat→List KI→cb→List ae→ai→Prop
 | 0,_,_,_,_=>False
 | _+1,[],e,tm,σ=>Q e ⟨tm,σ⟩
 | n+1, .code c :: k, .normal,tm,σ=>match c with
  | .skip=>dW P lo Q n k .normal tm σ
  | .seq a b=>dW P lo Q n (.code a :: .code b :: k) .normal tm σ
  | .cond c a b=>zd P lo Q n (ev tm c) a b k tm σ
  | .block id c=>dW P lo Q n (.code c :: .cf id :: k) .normal tm σ
  | .region id ops draw=>if draw=true then aK P lo Q (.code (.region id ops true) :: k) .normal ⟨tm,σ⟩ else dW P lo Q n (.ops ops ops.toList :: k) .normal tm σ
  | .exit id=>dW P lo Q n k (.exit id) tm σ
  | .ret=>dW P lo Q n k .ret tm σ
  | .scope c=>dW P lo Q n (.code c :: .zy :: k) .normal tm σ
  | .label _=>dW P lo Q n k .normal tm σ
  | .loop c=>aK P lo Q (.code (.loop c) :: k) .normal ⟨tm,σ⟩
  | .rangeFunc f ps a b=>aK P lo Q (.code (.rangeFunc f ps a b) :: k) .normal ⟨tm,σ⟩
  | .goto l=>dW P lo Q n k (.goto l) tm σ
  | .refuse _=>False
 | n+1, .code _ :: k,e,tm,σ=>dW P lo Q n k e tm σ
 | n+1, .ops _ [] :: k, .normal,tm,σ=>dW P lo Q n k .normal tm σ
 | n+1, .ops all (o :: l) :: k, .normal,tm,σ=>zf P lo Q n (l8 all tm o) all o l k tm σ
 | n+1, .ops _ _ :: k,e,tm,σ=>dW P lo Q n k e tm σ
 | n+1, .cf id :: k, .exit uW,tm,σ=>if uW=id then dW P lo Q n k .normal tm σ else dW P lo Q n k (.exit uW) tm σ
 | n+1, .cf _ :: k,e,tm,σ=>dW P lo Q n k e tm σ
 | n+1, .zy :: k,e,tm,σ=>match e with
  | .goto _=>False
  | e=>dW P lo Q n k e tm σ
 | n+1, .B0 :: k,e,tm,σ=>dW P lo Q n k e tm σ
def zd (P:Program) (lo:Ctx) (Q:cb→St→Prop):Nat→ae→Code→Code→List KI→List ae→ai→Prop
 | 0,_,_,_,_,_,_=>False
 | n+1, .bool t,a,b,k,tm,σ=>(t=true→dW P lo Q n (.code a :: k) .normal tm σ)∧(t=false→dW P lo Q n (.code b :: k) .normal tm σ)
 | n+1, .gZ,a,b,k,tm,σ=>dW P lo Q n (.code a :: k) .normal tm σ∧dW P lo Q n (.code b :: k) .normal tm σ
 | _+1,_,_,_,_,_,_=>False
def zf (P:Program) (lo:Ctx) (Q:cb→St→Prop):Nat→Option Bool→Array Oper→Oper→List Oper→List KI→List ae→ai→Prop
 | 0,_,_,_,_,_,_,_=>False
 | n+1,some g,all,o,l,k,tm,σ=>(g=true→mz P lo Q n o all l k tm σ)∧(g=false→dW P lo Q n (.ops all l :: k) .normal (put tm o.dst gone) σ)
 | _+1,none,_,_,_,_,_,_=>False
def mz (P:Program) (lo:Ctx) (Q:cb→St→Prop):Nat→Oper→Array Oper→List Oper→List KI→List ae→ai→Prop
 | 0,_,_,_,_,_,_=>False
 | n+1,o,all,l,k,tm,σ=>match o.op with
  | .call { callee:=.value f,args, .. }=>if jN k=true then sB P (ev tm f) (args.toList.map (ev tm)) σ (fun r σ'=>aK P lo Q (.ops all l :: k) .normal ⟨put tm o.dst r,σ'⟩) (fun u σ'=>aK P lo Q k (.panic u) ⟨tm,σ'⟩)
   else aq P (ev tm f) (args.toList.map (ev tm)) σ fun r σ'=>aK P lo Q (.ops all l :: k) .normal ⟨put tm o.dst r,σ'⟩
  | .panic x=>∃ u,yQ (ev tm x)=some u∧aK P lo Q k (.panic u) ⟨tm,σ⟩
  | .next x false=>nextQ (ev tm x) σ fun r σ'=>aK P lo Q (.ops all l :: k) .normal ⟨put tm o.dst r,σ'⟩
  | op=>lQ P lo Q n (cY P σ σ.length (ev tm) op) o.dst all l k tm
def lQ (P:Program) (lo:Ctx) (Q:cb→St→Prop):Nat→Option (ae×ai)→Option Tmp→Array Oper→List Oper→List KI→List ae→Prop
 | 0,_,_,_,_,_,_=>False
 | n+1,some (r,σ'),dst,all,l,k,tm=>dW P lo Q n (.ops all l :: k) .normal (put tm dst r) σ'
 | _+1,none,_,_,_,_,_=>False
end
section
variable {P:Program} {lo:Ctx} {Q:cb→St→Prop}
theorem Ypr {k:List KI} {e:cb} {s:St}:aK P lo Q (.B0 :: k) e s↔aK P lo Q k e s:=by cases e<;>exact Iff.rfl
theorem QW {all:Array Oper} {o:Oper} {l:List Oper} {k:List KI} {s:St} (hg:l8 all s.tm o=some true) {f:Operand} {args:Array Operand} {ts:Array TypeId} (hop:o.op = .call { callee:=.value f,args,argTypes:=ts })
  (h:sB P (ev s.tm f) (args.toList.map (ev s.tm)) s.σ (fun r σ'=>aK P lo Q (.ops all l :: k) .normal ⟨put s.tm o.dst r,σ'⟩) (fun u σ'=>aK P lo Q k (.panic u) ⟨s.tm,σ'⟩)):aK P lo Q (.ops all (o :: l) :: k) .normal s:=by
 intro hs
 obtain ⟨h1,h2,h3⟩:=hs.tail
 rw [au,gY]
 rcases h with h | h
 ·refine lW.call h2 hg hop (h.mono fun r σ' q=>?_)
  have:=q h1
  rwa [show all.size - l.length=all.size - (l.length+1)+1 by omega] at this
 ·exact lW.pan h2 hg hop h
theorem Yle {all:Array Oper} {o:Oper} {l:List Oper} {k:List KI} {s:St} (hg:l8 all s.tm o=some true) {x:Operand} (hop:o.op = .next x false)
  (h:nextQ (ev s.tm x) s.σ fun r σ'=>aK P lo Q (.ops all l :: k) .normal ⟨put s.tm o.dst r,σ'⟩):aK P lo Q (.ops all (o :: l) :: k) .normal s:=by
 intro hs
 obtain ⟨h1,h2,h3⟩:=hs.tail
 rw [au,gY]
 obtain ⟨b,ks,vs,seen,e1,e2,e3,e4⟩:=h
 have e:all.size - l.length=all.size - (l.length+1)+1:=by omega
 refine lW.G5 h2 hg hop e1 e2 (fun j hj hn=>?_) fun eX=>?_
 ·have:=e3 j hj hn h1
  rwa [e] at this
 ·have:=e4 eX h1
  rwa [e] at this
theorem Zu {all:Array Oper} {o:Oper} {l:List Oper} {k:List KI} {s:St} (hg:l8 all s.tm o=some true) {x:Operand} (hop:o.op = .panic x) {u:Value} (hu:yQ (ev s.tm x)=some u)
  (h:aK P lo Q k (.panic u) s):aK P lo Q (.ops all (o :: l) :: k) .normal s:=by
 intro hs
 obtain ⟨h1,h2,h3⟩:=hs.tail
 rw [au,gY]
 exact lW.panic h2 hg hop hu h
theorem Yl {id:Nat} {c:Code} {k:List KI} {s:St} (h:aK P lo Q (.code c :: .cf id :: k) .normal s):aK P lo Q (.code (.block id c) :: k) .normal s:=by
 refine ic.block (ic.mono h fun e s q=>?_)
 cases e with
 | exit uW =>
  simp only [aK] at q
  simp only [cb.inBlock]
  split at q
  ·rename_i e;rw [if_pos e];exact q
  ·rename_i e;rw [if_neg e];exact q
 | _=>exact q
theorem Yo0 {a b:Code} {k:List KI} {s:St} (h:aK P lo Q (.code a :: .code b :: k) .normal s):aK P lo Q (.code (.seq a b) :: k) .normal s:=by
 refine ic.seq (ic.mono h fun e s q=>?_)
 cases e<;>exact q
theorem Zk {c:Code} {k:List KI} {s:St} (h:aK P lo Q (.code c :: .zy :: k) .normal s):aK P lo Q (.code (.scope c) :: k) .normal s :=
 ic.scope (ic.mono h fun _ _ q=>q)
theorem Zz4 {id:Nat} {ops:Array Oper} {k:List KI} {s:St} (h:aK P lo Q (.ops ops ops.toList :: k) .normal s):aK P lo Q (.code (.region id ops false) :: k) .normal s:=by
 have:=h (A4.all ops)
 simp only [bA,ei] at this
 rw [← List.range_eq_range'] at this
 exact lW.region this
theorem Yxl {all:Array Oper} {o:Oper} {l:List Oper} {k:List KI} {s:St} (hg:l8 all s.tm o=some true) (h:vT P o s fun s'=>aK P lo Q (.ops all l :: k) .normal s'):aK P lo Q (.ops all (o :: l) :: k) .normal s:=by
 intro hs
 obtain ⟨h1,h2,h3⟩:=hs.tail
 rw [au,gY]
 refine lW.G7 h2 hg (Yq h fun s' q=>?_)
 have:=q h1
 rwa [show all.size - l.length=all.size - (l.length+1)+1 by omega] at this
theorem WD {all:Array Oper} {o:Oper} {l:List Oper} {k:List KI} {s:St} (hg:l8 all s.tm o=some false) (h:aK P lo Q (.ops all l :: k) .normal ⟨put s.tm o.dst gone,s.σ⟩):aK P lo Q (.ops all (o :: l) :: k) .normal s:=by
 intro hs
 obtain ⟨h1,h2,h3⟩:=hs.tail
 rw [au,gY]
 refine lW.Cw h2 hg ?_
 have:=h h1
 rwa [show all.size - l.length=all.size - (l.length+1)+1 by omega] at this
theorem Cf:∀ n,(∀ k e tm σ,dW P lo Q n k e tm σ→aK P lo Q k e ⟨tm,σ⟩):=by
 intro n
 induction n using Nat.strongRecOn with
 | _ n ih =>
 intro k e tm σ h
 match n,ih with
 | 0,_=>simp [dW] at h
 | n+1,ih =>
 have ky:∀ k e tm σ,dW P lo Q n k e tm σ→aK P lo Q k e ⟨tm,σ⟩:=ih n (by omega)
 match k with
 | []=>exact h
 | .code c :: k =>
  cases e with
  | normal =>
   simp only [dW] at h
   cases c with
   | skip=>exact ic.skip (Q:=fun e s=>aK P lo Q k e s) (ky _ _ _ _ h)
   | seq a b=>exact Yo0 (ky _ _ _ _ h)
   | cond c a b =>
    simp only at h
    match n,h,ih with
    | 0,h,_=>simp [zd] at h
    | n+1,h,ih =>
     have oC:∀ k e tm σ,dW P lo Q n k e tm σ→aK P lo Q k e ⟨tm,σ⟩:=ih n (by omega)
     cases hv:ev tm c<;>rw [hv] at h<;>simp only [zd] at h
     ·exact ic.cond (Q:=fun e s=>aK P lo Q k e s) (st:=⟨tm,σ⟩) hv (fun ht=>oC (.code a :: k) .normal tm σ (h.1 ht)) (fun ht=>oC (.code b :: k) .normal tm σ (h.2 ht))
     ·exact ic.Af (Q:=fun e s=>aK P lo Q k e s) (st:=⟨tm,σ⟩) hv (oC (.code a :: k) .normal tm σ h.1) (oC (.code b :: k) .normal tm σ h.2)
   | block id c=>exact Yl (ky _ _ _ _ h)
   | region id ops draw =>
    simp only at h
    split at h
    ·rename_i hd;rw [hd];exact h
    ·rename_i hd
     simp only [dj] at hd
     rw [hd]
     exact Zz4 (ky _ _ _ _ h)
   | exit id=>exact ic.exit (Q:=fun e s=>aK P lo Q k e s) (ky _ _ _ _ h)
   | ret=>exact ic.ret (Q:=fun e s=>aK P lo Q k e s) (ky _ _ _ _ h)
   | scope c=>exact Zk (ky _ _ _ _ h)
   | label l=>exact ic.label (Q:=fun e s=>aK P lo Q k e s) (ky _ _ _ _ h)
   | loop c=>exact h
   | rangeFunc f ps a b=>exact h
   | goto l=>exact ic.goto (Q:=fun e s=>aK P lo Q k e s) (ky _ _ _ _ h)
   | refuse w=>exact h.elim
  | exit id=>simp only [dW] at h;exact (ky k _ _ _ h:aK P lo Q k _ ⟨tm,σ⟩)
  | goto id=>simp only [dW] at h;exact (ky k _ _ _ h:aK P lo Q k _ ⟨tm,σ⟩)
  | ret=>simp only [dW] at h;exact (ky k _ _ _ h:aK P lo Q k _ ⟨tm,σ⟩)
  | panic u=>simp only [dW] at h;exact (ky k _ _ _ h:aK P lo Q k _ ⟨tm,σ⟩)
 | .ops all l :: k =>
  cases e with
  | normal =>
   match l with
   | [] =>
    simp only [dW] at h
    intro _
    exact lW.nil (ky _ _ _ _ h)
   | o :: l =>
    simp only [dW] at h
    match n,h,ih with
    | 0,h,_=>simp [zf] at h
    | n+1,h,ih =>
     cases hg:l8 all tm o with
     | none=>rw [hg] at h;simp [zf] at h
     | some g =>
      rw [hg] at h
      simp only [zf] at h
      cases g with
      | false=>exact WD hg (ih n (by omega) _ _ _ _ (h.2 rfl))
      | true =>
       have h1:=h.1 rfl
       match n,h1,ih with
       | 0,h1,_=>simp [mz] at h1
       | n+1,h1,ih =>
        simp only [mz] at h1
        split at h1
        ·rename_i f args ts hop
         split at h1
         ·exact QW hg hop h1
         ·exact QW hg hop (.inl h1)
        ·rename_i x hop
         obtain ⟨u,hu,h1⟩:=h1
         exact Zu hg hop hu h1
        ·rename_i x hop
         exact Yle hg hop h1
        ·rename_i op dX _ _
         refine Yxl hg ?_
         unfold vT
         split
         ·rename_i f args ts hop
          exact absurd hop (dX _ _ _)
         ·match n,h1,ih with
          | 0,h1,_=>simp [lQ] at h1
          | n+1,h1,ih =>
           cases hE:cY P σ σ.length (ev tm) o.op with
           | none=>rw [hE] at h1;simp [lQ] at h1
           | some x =>
            obtain ⟨r,σ'⟩:=x
            rw [hE] at h1
            simp only [lQ] at h1
            exact ⟨r,σ',rfl,ih n (by omega) _ _ _ _ h1⟩
  | exit id=>cases l<;>(simp only [dW] at h;exact (ky k _ _ _ h:aK P lo Q k _ ⟨tm,σ⟩))
  | goto id=>cases l<;>(simp only [dW] at h;exact (ky k _ _ _ h:aK P lo Q k _ ⟨tm,σ⟩))
  | ret=>cases l<;>(simp only [dW] at h;exact (ky k _ _ _ h:aK P lo Q k _ ⟨tm,σ⟩))
  | panic u=>cases l<;>(simp only [dW] at h;exact (ky k _ _ _ h:aK P lo Q k _ ⟨tm,σ⟩))
 | .cf id :: k =>
  cases e with
  | exit uW =>
   simp only [dW] at h
   simp only [aK]
   split at h
   ·rename_i e;rw [if_pos e];exact ky _ _ _ _ h
   ·rename_i e;rw [if_neg e];exact ky _ _ _ _ h
  | normal=>simp only [dW] at h;exact (ky k _ _ _ h:aK P lo Q k _ ⟨tm,σ⟩)
  | goto id=>simp only [dW] at h;exact (ky k _ _ _ h:aK P lo Q k _ ⟨tm,σ⟩)
  | ret=>simp only [dW] at h;exact (ky k _ _ _ h:aK P lo Q k _ ⟨tm,σ⟩)
  | panic u=>simp only [dW] at h;exact (ky k _ _ _ h:aK P lo Q k _ ⟨tm,σ⟩)
 | .B0 :: k =>
  have h:dW P lo Q n k e tm σ:=by cases e<;>simpa only [dW] using h
  exact Ypr.2 (ky k _ _ _ h)
 | .zy :: k =>
  cases e with
  | goto l=>simp only [dW] at h
  | normal=>simp only [dW] at h;exact (⟨by simp,ky k _ _ _ h⟩:(∀ l,cb.normal≠.goto l)∧aK P lo Q k .normal ⟨tm,σ⟩)
  | exit id=>simp only [dW] at h;exact (⟨by simp,ky k _ _ _ h⟩:(∀ l,cb.exit id≠.goto l)∧aK P lo Q k (.exit id) ⟨tm,σ⟩)
  | ret=>simp only [dW] at h;exact (⟨by simp,ky k _ _ _ h⟩:(∀ l,cb.ret≠.goto l)∧aK P lo Q k .ret ⟨tm,σ⟩)
  | panic u=>simp only [dW] at h;exact (⟨by simp,ky k _ _ _ h⟩:(∀ l,cb.panic u≠.goto l)∧aK P lo Q k (.panic u) ⟨tm,σ⟩)
theorem aK.go (n:Nat) {k:List KI} {e:cb} {tm:List ae} {σ:ai} (h:dW P lo Q n k e tm σ):aK P lo Q k e ⟨tm,σ⟩:=Cf n k e tm σ h
theorem aK.loop {ι:Type} (I : ι→St) (μ : ι→Nat) {c:Code} {k:List KI} {st:St} (x0 : ι) (h0:(I x0).le st) (iL:∀ x,lo.n≤(I x).σ.length)
  (round:∀ x,aK P lo (cb.then (fun s=>∃ y,(I y).le s∧μ y < μ x) (fun e s=>aK P lo Q k e s)) [.code c] .normal (I x)):aK P lo Q (.code (.loop c) :: k) .normal st :=
 ic.loop I μ x0 h0 iL fun x=>ic.mono (round x) fun e s q=>q
end
end Go.cV
