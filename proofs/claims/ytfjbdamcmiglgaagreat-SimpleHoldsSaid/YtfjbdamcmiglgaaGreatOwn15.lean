/- Part 15 of my own framework and of the walks of functions: AbsP. -/
import Derived.Test.YtfjbdamcmiglgaaGreatOwn14
abbrev dI:=@List.getElem?_cons_succ
abbrev iG:=@List.range'_succ
abbrev eV:=@Nat.sub_self
set_option linter.unusedVariables false
set_option linter.unusedSectionVars false
set_option linter.unusedSimpArgs false
namespace Go.dm
open Go
inductive KI where
 | code (c:Code)
 | ops (all:Array Oper) (l:List Oper)
 | cw (id:Nat)
 | AP
 | C1
def kf:List KI→Bool
 | []=>false
 | .C1 :: _=>true
 | _ :: k=>kf k
def tX (P:Program) (f:ah) (args:List ah) (σ:ai) (K:ah→ai→Prop) (Kp:Value→ai→Prop):Prop :=
 aq P f args σ K∨F9 P f args σ fun r σ'=>∃ u,zR r=some u∧Kp u σ'
def B_ (all:Array Oper) (l:List Oper):Prop:=l.length≤all.size∧∀ j:Nat,l[j]? = all[all.size - l.length+j]?
theorem B_.all (a:Array Oper):B_ a a.toList:=⟨by simp,fun j=>by simp⟩
theorem B_.tail {a:Array Oper} {o:Oper} {l:List Oper} (h:B_ a (o :: l)):B_ a l∧a[a.size - (l.length+1)]? = some o∧l.length+1≤a.size:=by
 obtain ⟨h1,h2⟩:=h;simp only [ax] at h1 h2;refine ⟨⟨by omega,fun j=>?_⟩,?_,h1⟩
 ·have:=h2 (j+1);rw [dI] at this;rw [this];congr 1;omega
 ·have:=h2 0;simpa using this.symm
def aG (P:Program) (lo:Ctx) (Q:ct→St→Prop):List KI→ct→St→Prop
 | [],e,st=>Q e st
 | .code c :: k,e,st=>match e with
  | .normal=>iy P lo c st (fun e s=>aG P lo Q k e s)
  | e=>aG P lo Q k e st
 | .ops all l :: k,e,st=>match e with
  | .normal=>B_ all l→mB P lo all [] (List.range' (all.size - l.length) l.length) st (fun e s=>aG P lo Q k e s)
  | e=>aG P lo Q k e st
 | .cw id :: k,e,st=>match e with
  | .exit wc=>if wc=id then aG P lo Q k .normal st else aG P lo Q k (.exit wc) st
  | e=>aG P lo Q k e st
 | .AP :: k,e,st=>(∀ l,e≠.goto l)∧aG P lo Q k e st
 | .C1 :: k,e,st=>aG P lo Q k e st
def nextQ (a:ah) (σ:ai) (K:ah→ai→Prop):Prop :=
 ∃ b ks vs seen,a = .it b∧bP σ b=some (.lL ks vs seen)∧(∀ j,j<ks.length→j ∉ seen→K (.dT [.bool true,ks.getD j .undef,vs.getD j .undef]) (cr σ b (.lL ks vs (seen++[j])))) ∧
  ((∀ j,j<ks.length→j∈seen)→K (.dT [.bool false]) σ)
mutual
def eF (P:Program) (lo:Ctx) (Q:ct→St→Prop):Nat→List KI→ct→List ah→ai→Prop
 | 0,_,_,_,_=>False
 | _+1,[],e,tm,σ=>Q e ⟨tm,σ⟩
 | n+1, .code c :: k, .normal,tm,σ=>match c with
  | .skip=>eF P lo Q n k .normal tm σ
  | .seq a b=>eF P lo Q n (.code a :: .code b :: k) .normal tm σ
  | .cond c a b=>Aj P lo Q n (ev tm c) a b k tm σ
  | .block id c=>eF P lo Q n (.code c :: .cw id :: k) .normal tm σ
  | .region id ops draw=>if draw=true then aG P lo Q (.code (.region id ops true) :: k) .normal ⟨tm,σ⟩ else eF P lo Q n (.ops ops ops.toList :: k) .normal tm σ
  | .exit id=>eF P lo Q n k (.exit id) tm σ
  | .ret=>eF P lo Q n k .ret tm σ
  | .scope c=>eF P lo Q n (.code c :: .AP :: k) .normal tm σ
  | .label _=>eF P lo Q n k .normal tm σ
  | .loop c=>aG P lo Q (.code (.loop c) :: k) .normal ⟨tm,σ⟩
  | .rangeFunc f ps a b=>aG P lo Q (.code (.rangeFunc f ps a b) :: k) .normal ⟨tm,σ⟩
  | .goto l=>eF P lo Q n k (.goto l) tm σ
  | .refuse _=>False
 | n+1, .code _ :: k,e,tm,σ=>eF P lo Q n k e tm σ
 | n+1, .ops _ [] :: k, .normal,tm,σ=>eF P lo Q n k .normal tm σ
 | n+1, .ops all (o :: l) :: k, .normal,tm,σ=>Ak P lo Q n (mN all tm o) all o l k tm σ
 | n+1, .ops _ _ :: k,e,tm,σ=>eF P lo Q n k e tm σ
 | n+1, .cw id :: k, .exit wc,tm,σ=>if wc=id then eF P lo Q n k .normal tm σ else eF P lo Q n k (.exit wc) tm σ
 | n+1, .cw _ :: k,e,tm,σ=>eF P lo Q n k e tm σ
 | n+1, .AP :: k,e,tm,σ=>match e with
  | .goto _=>False
  | e=>eF P lo Q n k e tm σ
 | n+1, .C1 :: k,e,tm,σ=>eF P lo Q n k e tm σ
def Aj (P:Program) (lo:Ctx) (Q:ct→St→Prop):Nat→ah→Code→Code→List KI→List ah→ai→Prop
 | 0,_,_,_,_,_,_=>False
 | n+1, .bool t,a,b,k,tm,σ=>(t=true→eF P lo Q n (.code a :: k) .normal tm σ)∧(t=false→eF P lo Q n (.code b :: k) .normal tm σ)
 | n+1, .iH,a,b,k,tm,σ=>eF P lo Q n (.code a :: k) .normal tm σ∧eF P lo Q n (.code b :: k) .normal tm σ
 | _+1,_,_,_,_,_,_=>False
def Ak (P:Program) (lo:Ctx) (Q:ct→St→Prop):Nat→Option Bool→Array Oper→Oper→List Oper→List KI→List ah→ai→Prop
 | 0,_,_,_,_,_,_,_=>False
 | n+1,some g,all,o,l,k,tm,σ=>(g=true→nc P lo Q n o all l k tm σ)∧(g=false→eF P lo Q n (.ops all l :: k) .normal (put tm o.dst gone) σ)
 | _+1,none,_,_,_,_,_,_=>False
def nc (P:Program) (lo:Ctx) (Q:ct→St→Prop):Nat→Oper→Array Oper→List Oper→List KI→List ah→ai→Prop
 | 0,_,_,_,_,_,_=>False
 | n+1,o,all,l,k,tm,σ=>match o.op with
  | .call { callee:=.value f,args, .. }=>if kf k=true then tX P (ev tm f) (args.toList.map (ev tm)) σ (fun r σ'=>aG P lo Q (.ops all l :: k) .normal ⟨put tm o.dst r,σ'⟩) (fun u σ'=>aG P lo Q k (.panic u) ⟨tm,σ'⟩)
   else aq P (ev tm f) (args.toList.map (ev tm)) σ fun r σ'=>aG P lo Q (.ops all l :: k) .normal ⟨put tm o.dst r,σ'⟩
  | .panic x=>∃ u,zR (ev tm x)=some u∧aG P lo Q k (.panic u) ⟨tm,σ⟩
  | .next x false=>nextQ (ev tm x) σ fun r σ'=>aG P lo Q (.ops all l :: k) .normal ⟨put tm o.dst r,σ'⟩
  | op=>mn P lo Q n (dt P σ σ.length (ev tm) op) o.dst all l k tm
def mn (P:Program) (lo:Ctx) (Q:ct→St→Prop):Nat→Option (ah×ai)→Option Tmp→Array Oper→List Oper→List KI→List ah→Prop
 | 0,_,_,_,_,_,_=>False
 | n+1,some (r,σ'),dst,all,l,k,tm=>eF P lo Q n (.ops all l :: k) .normal (put tm dst r) σ'
 | _+1,none,_,_,_,_,_=>False
end
section
variable {P:Program} {lo:Ctx} {Q:ct→St→Prop}
theorem Yvn {k:List KI} {e:ct} {s:St}:aG P lo Q (.C1 :: k) e s↔aG P lo Q k e s:=by cases e<;>exact Iff.rfl
theorem TG {all:Array Oper} {o:Oper} {l:List Oper} {k:List KI} {s:St} (hg:mN all s.tm o=some true) {f:Operand} {args:Array Operand} {ts:Array TypeId} (hop:o.op = .call { callee:=.value f,args,argTypes:=ts })
  (h:tX P (ev s.tm f) (args.toList.map (ev s.tm)) s.σ (fun r σ'=>aG P lo Q (.ops all l :: k) .normal ⟨put s.tm o.dst r,σ'⟩) (fun u σ'=>aG P lo Q k (.panic u) ⟨s.tm,σ'⟩)):aG P lo Q (.ops all (o :: l) :: k) .normal s:=by
 intro hs;obtain ⟨h1,h2,h3⟩:=hs.tail;rw [ax,iG];rcases h with h | h
 ·refine mB.call h2 hg hop (h.mono fun r σ' q=>?_);have:=q h1
  rwa [show all.size - l.length=all.size - (l.length+1)+1 by omega] at this
 ·exact mB.pan h2 hg hop h
theorem Yof {all:Array Oper} {o:Oper} {l:List Oper} {k:List KI} {s:St} (hg:mN all s.tm o=some true) {x:Operand} (hop:o.op = .next x false)
  (h:nextQ (ev s.tm x) s.σ fun r σ'=>aG P lo Q (.ops all l :: k) .normal ⟨put s.tm o.dst r,σ'⟩):aG P lo Q (.ops all (o :: l) :: k) .normal s:=by
 intro hs;obtain ⟨h1,h2,h3⟩:=hs.tail;rw [ax,iG];obtain ⟨b,ks,vs,seen,e1,e2,e3,e4⟩:=h;have e:all.size - l.length=all.size - (l.length+1)+1:=by omega
 refine mB.Il h2 hg hop e1 e2 (fun j hj hn=>?_) fun fq=>?_
 ·have:=e3 j hj hn h1
  rwa [e] at this
 ·have:=e4 fq h1
  rwa [e] at this
theorem Yin {all:Array Oper} {o:Oper} {l:List Oper} {k:List KI} {s:St} (hg:mN all s.tm o=some true) {x:Operand} (hop:o.op = .panic x) {u:Value} (hu:zR (ev s.tm x)=some u)
  (h:aG P lo Q k (.panic u) s):aG P lo Q (.ops all (o :: l) :: k) .normal s:=by
 intro hs;obtain ⟨h1,h2,h3⟩:=hs.tail;rw [ax,iG];exact mB.panic h2 hg hop hu h
theorem Yju {id:Nat} {c:Code} {k:List KI} {s:St} (h:aG P lo Q (.code c :: .cw id :: k) .normal s):aG P lo Q (.code (.block id c) :: k) .normal s:=by
 refine iy.block (iy.mono h fun e s q=>?_);cases e with
 | exit wc =>
  simp only [aG] at q;simp only [ct.inBlock];split at q
  ·rename_i e;rw [if_pos e];exact q
  ·rename_i e;rw [if_neg e];exact q
 | _=>exact q
theorem Ys7 {a b:Code} {k:List KI} {s:St} (h:aG P lo Q (.code a :: .code b :: k) .normal s):aG P lo Q (.code (.seq a b) :: k) .normal s:=by
 refine iy.seq (iy.mono h fun e s q=>?_);cases e<;>exact q
theorem Yhf {c:Code} {k:List KI} {s:St} (h:aG P lo Q (.code c :: .AP :: k) .normal s):aG P lo Q (.code (.scope c) :: k) .normal s :=
 iy.scope (iy.mono h fun _ _ q=>q)
theorem Yd6 {id:Nat} {ops:Array Oper} {k:List KI} {s:St} (h:aG P lo Q (.ops ops ops.toList :: k) .normal s):aG P lo Q (.code (.region id ops false) :: k) .normal s:=by
 have:=h (B_.all ops);simp only [bH,eV] at this;rw [← List.range_eq_range'] at this;exact mB.region this
theorem YX {all:Array Oper} {o:Oper} {l:List Oper} {k:List KI} {s:St} (hg:mN all s.tm o=some true) (h:w5 P o s fun s'=>aG P lo Q (.ops all l :: k) .normal s'):aG P lo Q (.ops all (o :: l) :: k) .normal s:=by
 intro hs;obtain ⟨h1,h2,h3⟩:=hs.tail;rw [ax,iG];refine mB.Io h2 hg (Yg0 h fun s' q=>?_);have:=q h1
 rwa [show all.size - l.length=all.size - (l.length+1)+1 by omega] at this
theorem Ycb {all:Array Oper} {o:Oper} {l:List Oper} {k:List KI} {s:St} (hg:mN all s.tm o=some false) (h:aG P lo Q (.ops all l :: k) .normal ⟨put s.tm o.dst gone,s.σ⟩):aG P lo Q (.ops all (o :: l) :: k) .normal s:=by
 intro hs;obtain ⟨h1,h2,h3⟩:=hs.tail;rw [ax,iG];refine mB.Dx h2 hg ?_;have:=h h1
 rwa [show all.size - l.length=all.size - (l.length+1)+1 by omega] at this
theorem A6:∀ n,(∀ k e tm σ,eF P lo Q n k e tm σ→aG P lo Q k e ⟨tm,σ⟩):=by
 intro n
 induction n using Nat.strongRecOn with
 | _ n ih =>
 intro k e tm σ h
 match n,ih with
 | 0,_=>simp [eF] at h
 | n+1,ih =>
 have lh:∀ k e tm σ,eF P lo Q n k e tm σ→aG P lo Q k e ⟨tm,σ⟩:=ih n (by omega)
 match k with
 | []=>exact h
 | .code c :: k =>
  cases e with
  | normal =>
   simp only [eF] at h;cases c with
   | skip=>exact iy.skip (Q:=fun e s=>aG P lo Q k e s) (lh _ _ _ _ h)
   | seq a b=>exact Ys7 (lh _ _ _ _ h)
   | cond c a b =>
    simp only at h
    match n,h,ih with
    | 0,h,_=>simp [Aj] at h
    | n+1,h,ih =>
     have pq:∀ k e tm σ,eF P lo Q n k e tm σ→aG P lo Q k e ⟨tm,σ⟩:=ih n (by omega);cases hv:ev tm c<;>rw [hv] at h<;>simp only [Aj] at h
     ·exact iy.cond (Q:=fun e s=>aG P lo Q k e s) (st:=⟨tm,σ⟩) hv (fun ht=>pq (.code a :: k) .normal tm σ (h.1 ht)) (fun ht=>pq (.code b :: k) .normal tm σ (h.2 ht))
     ·exact iy.Br (Q:=fun e s=>aG P lo Q k e s) (st:=⟨tm,σ⟩) hv (pq (.code a :: k) .normal tm σ h.1) (pq (.code b :: k) .normal tm σ h.2)
   | block id c=>exact Yju (lh _ _ _ _ h)
   | region id ops draw =>
    simp only at h;split at h
    ·rename_i hd;rw [hd];exact h
    ·rename_i hd;simp only [dw] at hd;rw [hd];exact Yd6 (lh _ _ _ _ h)
   | exit id=>exact iy.exit (Q:=fun e s=>aG P lo Q k e s) (lh _ _ _ _ h)
   | ret=>exact iy.ret (Q:=fun e s=>aG P lo Q k e s) (lh _ _ _ _ h)
   | scope c=>exact Yhf (lh _ _ _ _ h)
   | label l=>exact iy.label (Q:=fun e s=>aG P lo Q k e s) (lh _ _ _ _ h)
   | loop c=>exact h
   | rangeFunc f ps a b=>exact h
   | goto l=>exact iy.goto (Q:=fun e s=>aG P lo Q k e s) (lh _ _ _ _ h)
   | refuse w=>exact h.elim
  | exit id=>simp only [eF] at h;exact (lh k _ _ _ h:aG P lo Q k _ ⟨tm,σ⟩)
  | goto id=>simp only [eF] at h;exact (lh k _ _ _ h:aG P lo Q k _ ⟨tm,σ⟩)
  | ret=>simp only [eF] at h;exact (lh k _ _ _ h:aG P lo Q k _ ⟨tm,σ⟩)
  | panic u=>simp only [eF] at h;exact (lh k _ _ _ h:aG P lo Q k _ ⟨tm,σ⟩)
 | .ops all l :: k =>
  cases e with
  | normal =>
   match l with
   | [] =>
    simp only [eF] at h;intro _;exact mB.nil (lh _ _ _ _ h)
   | o :: l =>
    simp only [eF] at h
    match n,h,ih with
    | 0,h,_=>simp [Ak] at h
    | n+1,h,ih =>
     cases hg:mN all tm o with
     | none=>rw [hg] at h;simp [Ak] at h
     | some g =>
      rw [hg] at h;simp only [Ak] at h;cases g with
      | false=>exact Ycb hg (ih n (by omega) _ _ _ _ (h.2 rfl))
      | true =>
       have h1:=h.1 rfl
       match n,h1,ih with
       | 0,h1,_=>simp [nc] at h1
       | n+1,h1,ih =>
        simp only [nc] at h1;split at h1
        ·rename_i f args ts hop;split at h1
         ·exact TG hg hop h1
         ·exact TG hg hop (.inl h1)
        ·rename_i x hop;obtain ⟨u,hu,h1⟩:=h1;exact Yin hg hop hu h1
        ·rename_i x hop;exact Yof hg hop h1
        ·rename_i op eH _ _;refine YX hg ?_;unfold w5;split
         ·rename_i f args ts hop;exact absurd hop (eH _ _ _)
         ·match n,h1,ih with
          | 0,h1,_=>simp [mn] at h1
          | n+1,h1,ih =>
           cases hE:dt P σ σ.length (ev tm) o.op with
           | none=>rw [hE] at h1;simp [mn] at h1
           | some x =>
            obtain ⟨r,σ'⟩:=x;rw [hE] at h1;simp only [mn] at h1;exact ⟨r,σ',rfl,ih n (by omega) _ _ _ _ h1⟩
  | exit id=>cases l<;>(simp only [eF] at h;exact (lh k _ _ _ h:aG P lo Q k _ ⟨tm,σ⟩))
  | goto id=>cases l<;>(simp only [eF] at h;exact (lh k _ _ _ h:aG P lo Q k _ ⟨tm,σ⟩))
  | ret=>cases l<;>(simp only [eF] at h;exact (lh k _ _ _ h:aG P lo Q k _ ⟨tm,σ⟩))
  | panic u=>cases l<;>(simp only [eF] at h;exact (lh k _ _ _ h:aG P lo Q k _ ⟨tm,σ⟩))
 | .cw id :: k =>
  cases e with
  | exit wc =>
   simp only [eF] at h;simp only [aG];split at h
   ·rename_i e;rw [if_pos e];exact lh _ _ _ _ h
   ·rename_i e;rw [if_neg e];exact lh _ _ _ _ h
  | normal=>simp only [eF] at h;exact (lh k _ _ _ h:aG P lo Q k _ ⟨tm,σ⟩)
  | goto id=>simp only [eF] at h;exact (lh k _ _ _ h:aG P lo Q k _ ⟨tm,σ⟩)
  | ret=>simp only [eF] at h;exact (lh k _ _ _ h:aG P lo Q k _ ⟨tm,σ⟩)
  | panic u=>simp only [eF] at h;exact (lh k _ _ _ h:aG P lo Q k _ ⟨tm,σ⟩)
 | .C1 :: k =>
  have h:eF P lo Q n k e tm σ:=by cases e<;>simpa only [eF] using h
  exact Yvn.2 (lh k _ _ _ h)
 | .AP :: k =>
  cases e with
  | goto l=>simp only [eF] at h
  | normal=>simp only [eF] at h;exact (⟨by simp,lh k _ _ _ h⟩:(∀ l,ct.normal≠.goto l)∧aG P lo Q k .normal ⟨tm,σ⟩)
  | exit id=>simp only [eF] at h;exact (⟨by simp,lh k _ _ _ h⟩:(∀ l,ct.exit id≠.goto l)∧aG P lo Q k (.exit id) ⟨tm,σ⟩)
  | ret=>simp only [eF] at h;exact (⟨by simp,lh k _ _ _ h⟩:(∀ l,ct.ret≠.goto l)∧aG P lo Q k .ret ⟨tm,σ⟩)
  | panic u=>simp only [eF] at h;exact (⟨by simp,lh k _ _ _ h⟩:(∀ l,ct.panic u≠.goto l)∧aG P lo Q k (.panic u) ⟨tm,σ⟩)
theorem aG.go (n:Nat) {k:List KI} {e:ct} {tm:List ah} {σ:ai} (h:eF P lo Q n k e tm σ):aG P lo Q k e ⟨tm,σ⟩:=A6 n k e tm σ h
theorem aG.loop {ι:Type} (I : ι→St) (μ : ι→Nat) {c:Code} {k:List KI} {st:St} (x0 : ι) (h0:(I x0).le st) (jg:∀ x,lo.n≤(I x).σ.length)
  (round:∀ x,aG P lo (ct.then (fun s=>∃ y,(I y).le s∧μ y < μ x) (fun e s=>aG P lo Q k e s)) [.code c] .normal (I x)):aG P lo Q (.code (.loop c) :: k) .normal st :=
 iy.loop I μ x0 h0 jg fun x=>iy.mono (round x) fun e s q=>q
end
end Go.dm
