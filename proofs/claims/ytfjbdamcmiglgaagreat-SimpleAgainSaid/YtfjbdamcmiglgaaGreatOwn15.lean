/- Part 15 of my own framework and of the walks of functions: AbsP. -/
import Derived.Test.YtfjbdamcmiglgaaGreatOwn14
abbrev dq:=@List.getElem?_cons_succ
abbrev ie:=@List.range'_succ
abbrev en:=@Nat.sub_self
set_option linter.unusedVariables false
set_option linter.unusedSectionVars false
set_option linter.unusedSimpArgs false
namespace Go.c8
open Go
inductive KI where
 | code (c:Code)
 | ops (all:Array Oper) (l:List Oper)
 | cg (id:Nat)
 | zL
 | B8
def j3:List KI→Bool
 | []=>false
 | .B8 :: _=>true
 | _ :: k=>j3 k
def sL (P:Program) (f:ae) (args:List ae) (σ:ai) (K:ae→ai→Prop) (Kp:Value→ai→Prop):Prop :=
 aq P f args σ K∨E8 P f args σ fun r σ'=>∃ u,y4 r=some u∧Kp u σ'
def Bf (all:Array Oper) (l:List Oper):Prop:=l.length≤all.size∧∀ j:Nat,l[j]? = all[all.size - l.length+j]?
theorem Bf.all (a:Array Oper):Bf a a.toList:=⟨by simp,fun j=>by simp⟩
theorem Bf.tail {a:Array Oper} {o:Oper} {l:List Oper} (h:Bf a (o :: l)):Bf a l∧a[a.size - (l.length+1)]? = some o∧l.length+1≤a.size:=by
 obtain ⟨h1,h2⟩:=h
 simp only [ax] at h1 h2
 refine ⟨⟨by omega,fun j=>?_⟩,?_,h1⟩
 ·have:=h2 (j+1)
  rw [dq] at this
  rw [this];congr 1;omega
 ·have:=h2 0
  simpa using this.symm
def aK (P:Program) (lo:Ctx) (Q:cb→St→Prop):List KI→cb→St→Prop
 | [],e,st=>Q e st
 | .code c :: k,e,st=>match e with
  | .normal=>iw P lo c st (fun e s=>aK P lo Q k e s)
  | e=>aK P lo Q k e st
 | .ops all l :: k,e,st=>match e with
  | .normal=>Bf all l→mg P lo all [] (List.range' (all.size - l.length) l.length) st (fun e s=>aK P lo Q k e s)
  | e=>aK P lo Q k e st
 | .cg id :: k,e,st=>match e with
  | .exit u9=>if u9=id then aK P lo Q k .normal st else aK P lo Q k (.exit u9) st
  | e=>aK P lo Q k e st
 | .zL :: k,e,st=>(∀ l,e≠.goto l)∧aK P lo Q k e st
 | .B8 :: k,e,st=>aK P lo Q k e st
def nextQ (a:ae) (σ:ai) (K:ae→ai→Prop):Prop :=
 ∃ b ks vs seen,a = .it b∧bH σ b=some (.lu ks vs seen)∧(∀ j,j<ks.length→j ∉ seen→K (.dA [.bool true,ks.getD j .undef,vs.getD j .undef]) (b_ σ b (.lu ks vs (seen++[j])))) ∧
  ((∀ j,j<ks.length→j∈seen)→K (.dA [.bool false]) σ)
mutual
def dZ (P:Program) (lo:Ctx) (Q:cb→St→Prop):Nat→List KI→cb→List ae→ai→Prop
 | 0,_,_,_,_=>False
 | _+1,[],e,tm,σ=>Q e ⟨tm,σ⟩
 | n+1, .code c :: k, .normal,tm,σ=>match c with
  | .skip=>dZ P lo Q n k .normal tm σ
  | .seq a b=>dZ P lo Q n (.code a :: .code b :: k) .normal tm σ
  | .cond c a b=>zq P lo Q n (ev tm c) a b k tm σ
  | .block id c=>dZ P lo Q n (.code c :: .cg id :: k) .normal tm σ
  | .region id ops draw=>if draw=true then aK P lo Q (.code (.region id ops true) :: k) .normal ⟨tm,σ⟩ else dZ P lo Q n (.ops ops ops.toList :: k) .normal tm σ
  | .exit id=>dZ P lo Q n k (.exit id) tm σ
  | .ret=>dZ P lo Q n k .ret tm σ
  | .scope c=>dZ P lo Q n (.code c :: .zL :: k) .normal tm σ
  | .label _=>dZ P lo Q n k .normal tm σ
  | .loop c=>aK P lo Q (.code (.loop c) :: k) .normal ⟨tm,σ⟩
  | .rangeFunc f ps a b=>aK P lo Q (.code (.rangeFunc f ps a b) :: k) .normal ⟨tm,σ⟩
  | .goto l=>dZ P lo Q n k (.goto l) tm σ
  | .refuse _=>False
 | n+1, .code _ :: k,e,tm,σ=>dZ P lo Q n k e tm σ
 | n+1, .ops _ [] :: k, .normal,tm,σ=>dZ P lo Q n k .normal tm σ
 | n+1, .ops all (o :: l) :: k, .normal,tm,σ=>zr P lo Q n (my all tm o) all o l k tm σ
 | n+1, .ops _ _ :: k,e,tm,σ=>dZ P lo Q n k e tm σ
 | n+1, .cg id :: k, .exit u9,tm,σ=>if u9=id then dZ P lo Q n k .normal tm σ else dZ P lo Q n k (.exit u9) tm σ
 | n+1, .cg _ :: k,e,tm,σ=>dZ P lo Q n k e tm σ
 | n+1, .zL :: k,e,tm,σ=>match e with
  | .goto _=>False
  | e=>dZ P lo Q n k e tm σ
 | n+1, .B8 :: k,e,tm,σ=>dZ P lo Q n k e tm σ
def zq (P:Program) (lo:Ctx) (Q:cb→St→Prop):Nat→ae→Code→Code→List KI→List ae→ai→Prop
 | 0,_,_,_,_,_,_=>False
 | n+1, .bool t,a,b,k,tm,σ=>(t=true→dZ P lo Q n (.code a :: k) .normal tm σ)∧(t=false→dZ P lo Q n (.code b :: k) .normal tm σ)
 | n+1, .ig,a,b,k,tm,σ=>dZ P lo Q n (.code a :: k) .normal tm σ∧dZ P lo Q n (.code b :: k) .normal tm σ
 | _+1,_,_,_,_,_,_=>False
def zr (P:Program) (lo:Ctx) (Q:cb→St→Prop):Nat→Option Bool→Array Oper→Oper→List Oper→List KI→List ae→ai→Prop
 | 0,_,_,_,_,_,_,_=>False
 | n+1,some g,all,o,l,k,tm,σ=>(g=true→mK P lo Q n o all l k tm σ)∧(g=false→dZ P lo Q n (.ops all l :: k) .normal (put tm o.dst gone) σ)
 | _+1,none,_,_,_,_,_,_=>False
def mK (P:Program) (lo:Ctx) (Q:cb→St→Prop):Nat→Oper→Array Oper→List Oper→List KI→List ae→ai→Prop
 | 0,_,_,_,_,_,_=>False
 | n+1,o,all,l,k,tm,σ=>match o.op with
  | .call { callee:=.value f,args, .. }=>if j3 k=true then sL P (ev tm f) (args.toList.map (ev tm)) σ (fun r σ'=>aK P lo Q (.ops all l :: k) .normal ⟨put tm o.dst r,σ'⟩) (fun u σ'=>aK P lo Q k (.panic u) ⟨tm,σ'⟩)
   else aq P (ev tm f) (args.toList.map (ev tm)) σ fun r σ'=>aK P lo Q (.ops all l :: k) .normal ⟨put tm o.dst r,σ'⟩
  | .panic x=>∃ u,y4 (ev tm x)=some u∧aK P lo Q k (.panic u) ⟨tm,σ⟩
  | .next x false=>nextQ (ev tm x) σ fun r σ'=>aK P lo Q (.ops all l :: k) .normal ⟨put tm o.dst r,σ'⟩
  | op=>l8 P lo Q n (c9 P σ σ.length (ev tm) op) o.dst all l k tm
def l8 (P:Program) (lo:Ctx) (Q:cb→St→Prop):Nat→Option (ae×ai)→Option Tmp→Array Oper→List Oper→List KI→List ae→Prop
 | 0,_,_,_,_,_,_=>False
 | n+1,some (r,σ'),dst,all,l,k,tm=>dZ P lo Q n (.ops all l :: k) .normal (put tm dst r) σ'
 | _+1,none,_,_,_,_,_=>False
end
section
variable {P:Program} {lo:Ctx} {Q:cb→St→Prop}
theorem Yr5 {k:List KI} {e:cb} {s:St}:aK P lo Q (.B8 :: k) e s↔aK P lo Q k e s:=by cases e<;>exact Iff.rfl
theorem R8 {all:Array Oper} {o:Oper} {l:List Oper} {k:List KI} {s:St} (hg:my all s.tm o=some true) {f:Operand} {args:Array Operand} {ts:Array TypeId} (hop:o.op = .call { callee:=.value f,args,argTypes:=ts })
  (h:sL P (ev s.tm f) (args.toList.map (ev s.tm)) s.σ (fun r σ'=>aK P lo Q (.ops all l :: k) .normal ⟨put s.tm o.dst r,σ'⟩) (fun u σ'=>aK P lo Q k (.panic u) ⟨s.tm,σ'⟩)):aK P lo Q (.ops all (o :: l) :: k) .normal s:=by
 intro hs
 obtain ⟨h1,h2,h3⟩:=hs.tail
 rw [ax,ie]
 rcases h with h | h
 ·refine mg.call h2 hg hop (h.mono fun r σ' q=>?_)
  have:=q h1
  rwa [show all.size - l.length=all.size - (l.length+1)+1 by omega] at this
 ·exact mg.pan h2 hg hop h
theorem Ynq {all:Array Oper} {o:Oper} {l:List Oper} {k:List KI} {s:St} (hg:my all s.tm o=some true) {x:Operand} (hop:o.op = .next x false)
  (h:nextQ (ev s.tm x) s.σ fun r σ'=>aK P lo Q (.ops all l :: k) .normal ⟨put s.tm o.dst r,σ'⟩):aK P lo Q (.ops all (o :: l) :: k) .normal s:=by
 intro hs
 obtain ⟨h1,h2,h3⟩:=hs.tail
 rw [ax,ie]
 obtain ⟨b,ks,vs,seen,e1,e2,e3,e4⟩:=h
 have e:all.size - l.length=all.size - (l.length+1)+1:=by omega
 refine mg.Hr h2 hg hop e1 e2 (fun j hj hn=>?_) fun e8=>?_
 ·have:=e3 j hj hn h1
  rwa [e] at this
 ·have:=e4 e8 h1
  rwa [e] at this
theorem Zu {all:Array Oper} {o:Oper} {l:List Oper} {k:List KI} {s:St} (hg:my all s.tm o=some true) {x:Operand} (hop:o.op = .panic x) {u:Value} (hu:y4 (ev s.tm x)=some u)
  (h:aK P lo Q k (.panic u) s):aK P lo Q (.ops all (o :: l) :: k) .normal s:=by
 intro hs
 obtain ⟨h1,h2,h3⟩:=hs.tail
 rw [ax,ie]
 exact mg.panic h2 hg hop hu h
theorem Ygh {id:Nat} {c:Code} {k:List KI} {s:St} (h:aK P lo Q (.code c :: .cg id :: k) .normal s):aK P lo Q (.code (.block id c) :: k) .normal s:=by
 refine iw.block (iw.mono h fun e s q=>?_)
 cases e with
 | exit u9 =>
  simp only [aK] at q
  simp only [cb.inBlock]
  split at q
  ·rename_i e;rw [if_pos e];exact q
  ·rename_i e;rw [if_neg e];exact q
 | _=>exact q
theorem Ytd {a b:Code} {k:List KI} {s:St} (h:aK P lo Q (.code a :: .code b :: k) .normal s):aK P lo Q (.code (.seq a b) :: k) .normal s:=by
 refine iw.seq (iw.mono h fun e s q=>?_)
 cases e<;>exact q
theorem Yil {c:Code} {k:List KI} {s:St} (h:aK P lo Q (.code c :: .zL :: k) .normal s):aK P lo Q (.code (.scope c) :: k) .normal s :=
 iw.scope (iw.mono h fun _ _ q=>q)
theorem X9 {id:Nat} {ops:Array Oper} {k:List KI} {s:St} (h:aK P lo Q (.ops ops ops.toList :: k) .normal s):aK P lo Q (.code (.region id ops false) :: k) .normal s:=by
 have:=h (Bf.all ops)
 simp only [bB,en] at this
 rw [← List.range_eq_range'] at this
 exact mg.region this
theorem Yz1 {all:Array Oper} {o:Oper} {l:List Oper} {k:List KI} {s:St} (hg:my all s.tm o=some true) (h:wc P o s fun s'=>aK P lo Q (.ops all l :: k) .normal s'):aK P lo Q (.ops all (o :: l) :: k) .normal s:=by
 intro hs
 obtain ⟨h1,h2,h3⟩:=hs.tail
 rw [ax,ie]
 refine mg.Ht h2 hg (Z9 h fun s' q=>?_)
 have:=q h1
 rwa [show all.size - l.length=all.size - (l.length+1)+1 by omega] at this
theorem Y7 {all:Array Oper} {o:Oper} {l:List Oper} {k:List KI} {s:St} (hg:my all s.tm o=some false) (h:aK P lo Q (.ops all l :: k) .normal ⟨put s.tm o.dst gone,s.σ⟩):aK P lo Q (.ops all (o :: l) :: k) .normal s:=by
 intro hs
 obtain ⟨h1,h2,h3⟩:=hs.tail
 rw [ax,ie]
 refine mg.CI h2 hg ?_
 have:=h h1
 rwa [show all.size - l.length=all.size - (l.length+1)+1 by omega] at this
theorem Cp:∀ n,(∀ k e tm σ,dZ P lo Q n k e tm σ→aK P lo Q k e ⟨tm,σ⟩):=by
 intro n
 induction n using Nat.strongRecOn with
 | _ n ih =>
 intro k e tm σ h
 match n,ih with
 | 0,_=>simp [dZ] at h
 | n+1,ih =>
 have kN:∀ k e tm σ,dZ P lo Q n k e tm σ→aK P lo Q k e ⟨tm,σ⟩:=ih n (by omega)
 match k with
 | []=>exact h
 | .code c :: k =>
  cases e with
  | normal =>
   simp only [dZ] at h
   cases c with
   | skip=>exact iw.skip (Q:=fun e s=>aK P lo Q k e s) (kN _ _ _ _ h)
   | seq a b=>exact Ytd (kN _ _ _ _ h)
   | cond c a b =>
    simp only at h
    match n,h,ih with
    | 0,h,_=>simp [zq] at h
    | n+1,h,ih =>
     have oP:∀ k e tm σ,dZ P lo Q n k e tm σ→aK P lo Q k e ⟨tm,σ⟩:=ih n (by omega)
     cases hv:ev tm c<;>rw [hv] at h<;>simp only [zq] at h
     ·exact iw.cond (Q:=fun e s=>aK P lo Q k e s) (st:=⟨tm,σ⟩) hv (fun ht=>oP (.code a :: k) .normal tm σ (h.1 ht)) (fun ht=>oP (.code b :: k) .normal tm σ (h.2 ht))
     ·exact iw.Aw (Q:=fun e s=>aK P lo Q k e s) (st:=⟨tm,σ⟩) hv (oP (.code a :: k) .normal tm σ h.1) (oP (.code b :: k) .normal tm σ h.2)
   | block id c=>exact Ygh (kN _ _ _ _ h)
   | region id ops draw =>
    simp only at h
    split at h
    ·rename_i hd;rw [hd];exact h
    ·rename_i hd
     simp only [df] at hd
     rw [hd]
     exact X9 (kN _ _ _ _ h)
   | exit id=>exact iw.exit (Q:=fun e s=>aK P lo Q k e s) (kN _ _ _ _ h)
   | ret=>exact iw.ret (Q:=fun e s=>aK P lo Q k e s) (kN _ _ _ _ h)
   | scope c=>exact Yil (kN _ _ _ _ h)
   | label l=>exact iw.label (Q:=fun e s=>aK P lo Q k e s) (kN _ _ _ _ h)
   | loop c=>exact h
   | rangeFunc f ps a b=>exact h
   | goto l=>exact iw.goto (Q:=fun e s=>aK P lo Q k e s) (kN _ _ _ _ h)
   | refuse w=>exact h.elim
  | exit id=>simp only [dZ] at h;exact (kN k _ _ _ h:aK P lo Q k _ ⟨tm,σ⟩)
  | goto id=>simp only [dZ] at h;exact (kN k _ _ _ h:aK P lo Q k _ ⟨tm,σ⟩)
  | ret=>simp only [dZ] at h;exact (kN k _ _ _ h:aK P lo Q k _ ⟨tm,σ⟩)
  | panic u=>simp only [dZ] at h;exact (kN k _ _ _ h:aK P lo Q k _ ⟨tm,σ⟩)
 | .ops all l :: k =>
  cases e with
  | normal =>
   match l with
   | [] =>
    simp only [dZ] at h
    intro _
    exact mg.nil (kN _ _ _ _ h)
   | o :: l =>
    simp only [dZ] at h
    match n,h,ih with
    | 0,h,_=>simp [zr] at h
    | n+1,h,ih =>
     cases hg:my all tm o with
     | none=>rw [hg] at h;simp [zr] at h
     | some g =>
      rw [hg] at h
      simp only [zr] at h
      cases g with
      | false=>exact Y7 hg (ih n (by omega) _ _ _ _ (h.2 rfl))
      | true =>
       have h1:=h.1 rfl
       match n,h1,ih with
       | 0,h1,_=>simp [mK] at h1
       | n+1,h1,ih =>
        simp only [mK] at h1
        split at h1
        ·rename_i f args ts hop
         split at h1
         ·exact R8 hg hop h1
         ·exact R8 hg hop (.inl h1)
        ·rename_i x hop
         obtain ⟨u,hu,h1⟩:=h1
         exact Zu hg hop hu h1
        ·rename_i x hop
         exact Ynq hg hop h1
        ·rename_i op ep _ _
         refine Yz1 hg ?_
         unfold wc
         split
         ·rename_i f args ts hop
          exact absurd hop (ep _ _ _)
         ·match n,h1,ih with
          | 0,h1,_=>simp [l8] at h1
          | n+1,h1,ih =>
           cases hE:c9 P σ σ.length (ev tm) o.op with
           | none=>rw [hE] at h1;simp [l8] at h1
           | some x =>
            obtain ⟨r,σ'⟩:=x
            rw [hE] at h1
            simp only [l8] at h1
            exact ⟨r,σ',rfl,ih n (by omega) _ _ _ _ h1⟩
  | exit id=>cases l<;>(simp only [dZ] at h;exact (kN k _ _ _ h:aK P lo Q k _ ⟨tm,σ⟩))
  | goto id=>cases l<;>(simp only [dZ] at h;exact (kN k _ _ _ h:aK P lo Q k _ ⟨tm,σ⟩))
  | ret=>cases l<;>(simp only [dZ] at h;exact (kN k _ _ _ h:aK P lo Q k _ ⟨tm,σ⟩))
  | panic u=>cases l<;>(simp only [dZ] at h;exact (kN k _ _ _ h:aK P lo Q k _ ⟨tm,σ⟩))
 | .cg id :: k =>
  cases e with
  | exit u9 =>
   simp only [dZ] at h
   simp only [aK]
   split at h
   ·rename_i e;rw [if_pos e];exact kN _ _ _ _ h
   ·rename_i e;rw [if_neg e];exact kN _ _ _ _ h
  | normal=>simp only [dZ] at h;exact (kN k _ _ _ h:aK P lo Q k _ ⟨tm,σ⟩)
  | goto id=>simp only [dZ] at h;exact (kN k _ _ _ h:aK P lo Q k _ ⟨tm,σ⟩)
  | ret=>simp only [dZ] at h;exact (kN k _ _ _ h:aK P lo Q k _ ⟨tm,σ⟩)
  | panic u=>simp only [dZ] at h;exact (kN k _ _ _ h:aK P lo Q k _ ⟨tm,σ⟩)
 | .B8 :: k =>
  have h:dZ P lo Q n k e tm σ:=by cases e<;>simpa only [dZ] using h
  exact Yr5.2 (kN k _ _ _ h)
 | .zL :: k =>
  cases e with
  | goto l=>simp only [dZ] at h
  | normal=>simp only [dZ] at h;exact (⟨by simp,kN k _ _ _ h⟩:(∀ l,cb.normal≠.goto l)∧aK P lo Q k .normal ⟨tm,σ⟩)
  | exit id=>simp only [dZ] at h;exact (⟨by simp,kN k _ _ _ h⟩:(∀ l,cb.exit id≠.goto l)∧aK P lo Q k (.exit id) ⟨tm,σ⟩)
  | ret=>simp only [dZ] at h;exact (⟨by simp,kN k _ _ _ h⟩:(∀ l,cb.ret≠.goto l)∧aK P lo Q k .ret ⟨tm,σ⟩)
  | panic u=>simp only [dZ] at h;exact (⟨by simp,kN k _ _ _ h⟩:(∀ l,cb.panic u≠.goto l)∧aK P lo Q k (.panic u) ⟨tm,σ⟩)
theorem aK.go (n:Nat) {k:List KI} {e:cb} {tm:List ae} {σ:ai} (h:dZ P lo Q n k e tm σ):aK P lo Q k e ⟨tm,σ⟩:=Cp n k e tm σ h
theorem aK.loop {ι:Type} (I : ι→St) (μ : ι→Nat) {c:Code} {k:List KI} {st:St} (x0 : ι) (h0:(I x0).le st) (iU:∀ x,lo.n≤(I x).σ.length)
  (round:∀ x,aK P lo (cb.then (fun s=>∃ y,(I y).le s∧μ y < μ x) (fun e s=>aK P lo Q k e s)) [.code c] .normal (I x)):aK P lo Q (.code (.loop c) :: k) .normal st :=
 iw.loop I μ x0 h0 iU fun x=>iw.mono (round x) fun e s q=>q
end
end Go.c8
