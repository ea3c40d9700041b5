/- Part 15 of what the claim rests on. -/
import Derived.Test.YtfjbdamcmiglgaaGreatOwn14
set_option linter.all false
abbrev dS:=@List.getElem?_cons_succ
abbrev jg:=@List.range'_succ
abbrev dF:=@Nat.sub_self
namespace Go.dq
open Go
inductive KI where
 |code (c:Code)
 |ops (all:Array Oper) (l:List Oper)
 |cG (id:Nat)
 |Ds
 |Kh
def mW:List KI->Bool
 |[]=>false
 |.Kh :: _=>true
 |_ :: k=>mW k
def xr (P:Program)(f:ah)(args:List ah)(σ:av)(K:ah->av->Prop)(Kp:Value->av->Prop):Prop :=
 ak P f args σ K\/HJ P f args σ λr σ'=>∃u,Dq r=some u/\Kp u σ'
def DG (all:Array Oper)(l:List Oper):Prop:=l.length<=all.size/\∀j:Nat,l[j]? = all[all.size-l.length+j]?
theorem DG.all (a:Array Oper):DG a a.toList:=⟨by simp,λj=>by simp⟩
theorem DG.tail {a:Array Oper}{o:Oper}{l:List Oper}(h:DG a (o :: l)):DG a l/\a[a.size-(l.length+1)]? = some o/\l.length+1<=a.size:=by
 obtain⟨h1,h2⟩:=h;simp only[aq]at h1 h2;refine⟨⟨by omega,λj=>?_⟩,?_,h1⟩
 ·have:=h2 (j+1);rw[dS]at this;rw[this];congr 1;omega
 ·have:=h2 0;simpa using this.symm
def aC (P:Program) (lo:Ctx) (Q:cB->St->Prop):List KI->cB->St->Prop
 |[],e,st=>Q e st
 |.code c :: k,e,st=>match e with
  |.normal=>jn P lo c st (λe s=>aC P lo Q k e s)
  |e=>aC P lo Q k e st
 |.ops all l :: k,e,st=>match e with
  |.normal=>DG all l->mR P lo all [] (List.range' (all.size-l.length) l.length) st (λe s=>aC P lo Q k e s)
  |e=>aC P lo Q k e st
 |.cG id :: k,e,st=>match e with
  |.exit xo=>if xo=id then aC P lo Q k .normal st else aC P lo Q k (.exit xo) st
  |e=>aC P lo Q k e st
 |.Ds :: k,e,st=>(∀l,e≠.goto l)/\aC P lo Q k e st
 |.Kh :: k,e,st=>aC P lo Q k e st
def nextQ (a:ah) (σ:av) (K:ah->av->Prop):Prop :=
 ∃b ks vs seen,a=.it b/\bW σ b=some (.mC ks vs seen)/\(∀j,j<ks.length->j ∉ seen->K (.dw [.bool true,ks.getD j .undef,vs.getD j .undef]) (cJ σ b (.mC ks vs (seen++[j])))) /\
  ((∀j,j<ks.length->j∈seen)->K (.dw [.bool false]) σ)
mutual
def fx (P:Program) (lo:Ctx) (Q:cB->St->Prop):Nat->List KI->cB->List ah->av->Prop
 |0,_,_,_,_=>False
 |_+1,[],e,tm,σ=>Q e ⟨tm,σ⟩
 |n+1,.code c :: k,.normal,tm,σ=>match c with
  |.skip=>fx P lo Q n k .normal tm σ
  |.seq a b=>fx P lo Q n (.code a :: .code b :: k) .normal tm σ
  |.cond c a b=>BU P lo Q n (ev tm c) a b k tm σ
  |.block id c=>fx P lo Q n (.code c :: .cG id :: k) .normal tm σ
  |.region id ops draw=>if draw=true then aC P lo Q (.code (.region id ops true):: k) .normal ⟨tm,σ⟩ else fx P lo Q n (.ops ops ops.toList :: k) .normal tm σ
  |.exit id=>fx P lo Q n k (.exit id) tm σ
  |.ret=>fx P lo Q n k .ret tm σ
  |.scope c=>fx P lo Q n (.code c :: .Ds :: k) .normal tm σ
  |.label _=>fx P lo Q n k .normal tm σ
  |.loop c=>aC P lo Q (.code (.loop c):: k) .normal ⟨tm,σ⟩
  |.rangeFunc f ps a b=>aC P lo Q (.code (.rangeFunc f ps a b):: k) .normal ⟨tm,σ⟩
  |.goto l=>fx P lo Q n k (.goto l) tm σ
  |.refuse _=>False
 |n+1,.code _ :: k,e,tm,σ=>fx P lo Q n k e tm σ
 |n+1,.ops _ [] :: k,.normal,tm,σ=>fx P lo Q n k .normal tm σ
 |n+1,.ops all (o :: l):: k,.normal,tm,σ=>BV P lo Q n (nc all tm o) all o l k tm σ
 |n+1,.ops _ _ :: k,e,tm,σ=>fx P lo Q n k e tm σ
 |n+1,.cG id :: k,.exit xo,tm,σ=>if xo=id then fx P lo Q n k .normal tm σ else fx P lo Q n k (.exit xo) tm σ
 |n+1,.cG _ :: k,e,tm,σ=>fx P lo Q n k e tm σ
 |n+1,.Ds :: k,e,tm,σ=>match e with
  |.goto _=>False
  |e=>fx P lo Q n k e tm σ
 |n+1,.Kh :: k,e,tm,σ=>fx P lo Q n k e tm σ
def BU (P:Program)(lo:Ctx)(Q:cB->St->Prop):Nat->ah->Code->Code->List KI->List ah->av->Prop
 |0,_,_,_,_,_,_=>False
 |n+1,.bool t,a,b,k,tm,σ=>(t=true->fx P lo Q n (.code a :: k) .normal tm σ)/\(t=false->fx P lo Q n (.code b :: k) .normal tm σ)
 |n+1,.jL,a,b,k,tm,σ=>fx P lo Q n (.code a :: k) .normal tm σ/\fx P lo Q n (.code b :: k) .normal tm σ
 |_+1,_,_,_,_,_,_=>False
def BV (P:Program)(lo:Ctx)(Q:cB->St->Prop):Nat->Option Bool->Array Oper->Oper->List Oper->List KI->List ah->av->Prop
 |0,_,_,_,_,_,_,_=>False
 |n+1,some g,all,o,l,k,tm,σ=>(g=true->pb P lo Q n o all l k tm σ)/\(g=false->fx P lo Q n (.ops all l :: k) .normal (put tm o.dst gone) σ)
 |_+1,none,_,_,_,_,_,_=>False
def pb (P:Program) (lo:Ctx) (Q:cB->St->Prop):Nat->Oper->Array Oper->List Oper->List KI->List ah->av->Prop
 |0,_,_,_,_,_,_=>False
 | n+1,o,all,l,k,tm,σ=>match o.op with
  |.call { callee:=.value f,args,.. }=>if mW k=true then xr P (ev tm f) (args.toList.map (ev tm)) σ (λr σ'=>aC P lo Q (.ops all l :: k) .normal ⟨put tm o.dst r,σ'⟩) (λu σ'=>aC P lo Q k (.panic u) ⟨tm,σ'⟩)
   else ak P (ev tm f) (args.toList.map (ev tm)) σ λr σ'=>aC P lo Q (.ops all l :: k) .normal ⟨put tm o.dst r,σ'⟩
  |.panic x=>∃u,Dq (ev tm x)=some u/\aC P lo Q k (.panic u) ⟨tm,σ⟩
  |.next x false=>nextQ (ev tm x) σ λr σ'=>aC P lo Q (.ops all l :: k) .normal ⟨put tm o.dst r,σ'⟩
  |op=>oO P lo Q n (dJ P σ σ.length (ev tm) op) o.dst all l k tm
def oO (P:Program)(lo:Ctx)(Q:cB->St->Prop):Nat->Option (ah×av)->Option Tmp->Array Oper->List Oper->List KI->List ah->Prop
 |0,_,_,_,_,_,_=>False
 |n+1,some (r,σ'),dst,all,l,k,tm=>fx P lo Q n (.ops all l :: k) .normal (put tm dst r) σ'
 |_+1,none,_,_,_,_,_=>False
end
section
variable {P:Program}{lo:Ctx}{Q:cB->St->Prop}
theorem Yt4 {k:List KI}{e:cB}{s:St}:aC P lo Q (.Kh :: k) e s↔aC P lo Q k e s:=by cases e<;>exact Iff.rfl
theorem Wn {all:Array Oper} {o:Oper} {l:List Oper} {k:List KI} {s:St} (hg:nc all s.tm o=some true) {f:Operand} {args:Array Operand} {ts:Array TypeId} (hop:o.op=.call { callee:=.value f,args,argTypes:=ts })
  (h:xr P (ev s.tm f) (args.toList.map (ev s.tm)) s.σ (λr σ'=>aC P lo Q (.ops all l :: k) .normal ⟨put s.tm o.dst r,σ'⟩) (λu σ'=>aC P lo Q k (.panic u) ⟨s.tm,σ'⟩)):aC P lo Q (.ops all (o :: l):: k) .normal s:=by
 intro hs;obtain⟨h1,h2,h3⟩:=hs.tail;rw[aq,jg];rcases h with h|h
 ·refine mR.call h2 hg hop (h.mono λr σ' q=>?_);have:=q h1
  rwa [show all.size-l.length=all.size-(l.length+1)+1 by omega]at this
 ·exact mR.pan h2 hg hop h
theorem Yl0 {all:Array Oper} {o:Oper} {l:List Oper} {k:List KI} {s:St} (hg:nc all s.tm o=some true) {x:Operand} (hop:o.op=.next x false)
  (h:nextQ (ev s.tm x) s.σ λr σ'=>aC P lo Q (.ops all l :: k) .normal ⟨put s.tm o.dst r,σ'⟩):aC P lo Q (.ops all (o :: l):: k) .normal s:=by
 intro hs;obtain⟨h1,h2,h3⟩:=hs.tail;rw[aq,jg];obtain⟨b,ks,vs,seen,e1,e2,e3,e4⟩:=h;have e:all.size-l.length=all.size-(l.length+1)+1:=by omega
 refine mR.J9 h2 hg hop e1 e2 (λj hj hn=>?_) λfj=>?_
 ·have:=e3 j hj hn h1
  rwa [e]at this
 ·have:=e4 fj h1
  rwa [e]at this
theorem Yhg {all:Array Oper} {o:Oper} {l:List Oper} {k:List KI} {s:St} (hg:nc all s.tm o=some true) {x:Operand} (hop:o.op=.panic x) {u:Value} (hu:Dq (ev s.tm x)=some u)
  (h:aC P lo Q k (.panic u) s):aC P lo Q (.ops all (o :: l):: k) .normal s:=by
 intro hs;obtain⟨h1,h2,h3⟩:=hs.tail;rw[aq,jg];exact mR.panic h2 hg hop hu h
theorem Yj3 {id:Nat} {c:Code} {k:List KI} {s:St} (h:aC P lo Q (.code c :: .cG id :: k) .normal s):aC P lo Q (.code (.block id c):: k) .normal s:=by
 refine jn.block (jn.mono h λe s q=>?_);cases e with
 |exit xo =>
  simp only[aC]at q;simp only[cB.inBlock];split at q
  ·rename_i e;rw[if_pos e];exact q
  ·rename_i e;rw[if_neg e];exact q
 |_=>exact q
theorem Ysq {a b:Code}{k:List KI}{s:St}(h:aC P lo Q (.code a :: .code b :: k) .normal s):aC P lo Q (.code (.seq a b):: k) .normal s:=by
 refine jn.seq (jn.mono h λe s q=>?_);cases e<;>exact q
theorem Ykc {c:Code}{k:List KI}{s:St}(h:aC P lo Q (.code c :: .Ds :: k) .normal s):aC P lo Q (.code (.scope c):: k) .normal s :=
 jn.scope (jn.mono h λ_ _ q=>q)
theorem Ycr {id:Nat}{ops:Array Oper}{k:List KI}{s:St}(h:aC P lo Q (.ops ops ops.toList :: k) .normal s):aC P lo Q (.code (.region id ops false):: k) .normal s:=by
 have:=h (DG.all ops);simp only[bR,dF]at this;rw[<-List.range_eq_range']at this;exact mR.region this
theorem Yxz {all:Array Oper}{o:Oper}{l:List Oper}{k:List KI}{s:St}(hg:nc all s.tm o=some true)(h:yh P o s λs'=>aC P lo Q (.ops all l :: k) .normal s'):aC P lo Q (.ops all (o :: l):: k) .normal s:=by
 intro hs;obtain⟨h1,h2,h3⟩:=hs.tail;rw[aq,jg];refine mR.Ka h2 hg (Yeu h λs' q=>?_);have:=q h1
 rwa [show all.size-l.length=all.size-(l.length+1)+1 by omega]at this
theorem Yd3 {all:Array Oper}{o:Oper}{l:List Oper}{k:List KI}{s:St}(hg:nc all s.tm o=some false)(h:aC P lo Q (.ops all l :: k) .normal ⟨put s.tm o.dst gone,s.σ⟩):aC P lo Q (.ops all (o :: l):: k) .normal s:=by
 intro hs;obtain⟨h1,h2,h3⟩:=hs.tail;rw[aq,jg];refine mR.E5 h2 hg ?_;have:=h h1
 rwa [show all.size-l.length=all.size-(l.length+1)+1 by omega]at this
theorem EO:∀ n,(∀k e tm σ,fx P lo Q n k e tm σ->aC P lo Q k e ⟨tm,σ⟩):=by
 intro n
 induction n using Nat.strongRecOn with
 |_ n ih =>
 intro k e tm σ h
 match n,ih with
 |0,_=>simp[fx]at h
 |n+1,ih =>
 have lZ:∀k e tm σ,fx P lo Q n k e tm σ->aC P lo Q k e ⟨tm,σ⟩:=ih n (by omega)
 match k with
 |[]=>exact h
 | .code c :: k =>
  cases e with
  | normal =>
   simp only[fx]at h;cases c with
   |skip=>exact jn.skip (Q:=λe s=>aC P lo Q k e s) (lZ _ _ _ _ h)
   |seq a b=>exact Ysq (lZ _ _ _ _ h)
   | cond c a b =>
    simp only at h
    match n,h,ih with
    |0,h,_=>simp[BU]at h
    |n+1,h,ih =>
     have qj:∀k e tm σ,fx P lo Q n k e tm σ->aC P lo Q k e ⟨tm,σ⟩:=ih n (by omega);cases hv:ev tm c<;>rw[hv]at h<;>simp only[BU]at h
     ·exact jn.cond (Q:=λe s=>aC P lo Q k e s) (st:=⟨tm,σ⟩) hv (λht=>qj (.code a :: k) .normal tm σ (h.1 ht)) (λht=>qj (.code b :: k) .normal tm σ (h.2 ht))
     ·exact jn.CU (Q:=λe s=>aC P lo Q k e s) (st:=⟨tm,σ⟩) hv (qj (.code a :: k) .normal tm σ h.1) (qj (.code b :: k) .normal tm σ h.2)
   |block id c=>exact Yj3 (lZ _ _ _ _ h)
   |region id ops draw =>
    simp only at h;split at h
    ·rename_i hd;rw[hd];exact h
    ·rename_i hd;simp only[dB]at hd;rw[hd];exact Ycr (lZ _ _ _ _ h)
   |exit id=>exact jn.exit (Q:=λe s=>aC P lo Q k e s) (lZ _ _ _ _ h)
   |ret=>exact jn.ret (Q:=λe s=>aC P lo Q k e s) (lZ _ _ _ _ h)
   |scope c=>exact Ykc (lZ _ _ _ _ h)
   |label l=>exact jn.label (Q:=λe s=>aC P lo Q k e s) (lZ _ _ _ _ h)
   |loop c=>exact h
   |rangeFunc f ps a b=>exact h
   |goto l=>exact jn.goto (Q:=λe s=>aC P lo Q k e s) (lZ _ _ _ _ h)
   |refuse w=>exact h.elim
  |exit id=>simp only[fx]at h;exact(lZ k _ _ _ h:aC P lo Q k _ ⟨tm,σ⟩)
  |goto id=>simp only[fx]at h;exact(lZ k _ _ _ h:aC P lo Q k _ ⟨tm,σ⟩)
  |ret=>simp only[fx]at h;exact(lZ k _ _ _ h:aC P lo Q k _ ⟨tm,σ⟩)
  |panic u=>simp only[fx]at h;exact(lZ k _ _ _ h:aC P lo Q k _ ⟨tm,σ⟩)
 | .ops all l :: k =>
  cases e with
  | normal =>
   match l with
   |[] =>
    simp only[fx]at h;intro _;exact mR.nil (lZ _ _ _ _ h)
   | o :: l =>
    simp only[fx]at h
    match n,h,ih with
    |0,h,_=>simp[BV]at h
    | n+1,h,ih =>
     cases hg:nc all tm o with
     |none=>rw[hg]at h;simp[BV]at h
     | some g =>
      rw[hg]at h;simp only[BV]at h;cases g with
      |false=>exact Yd3 hg (ih n (by omega) _ _ _ _ (h.2 rfl))
      | true =>
       have h1:=h.1 rfl
       match n,h1,ih with
       |0,h1,_=>simp[pb]at h1
       | n+1,h1,ih =>
        simp only[pb]at h1;split at h1
        ·rename_i f args ts hop;split at h1
         ·exact Wn hg hop h1
         ·exact Wn hg hop (.inl h1)
        ·rename_i x hop;obtain⟨u,hu,h1⟩:=h1;exact Yhg hg hop hu h1
        ·rename_i x hop;exact Yl0 hg hop h1
        ·rename_i op dL _ _;refine Yxz hg ?_;unfold yh;split
         ·rename_i f args ts hop;exact absurd hop (dL _ _ _)
         ·match n,h1,ih with
          |0,h1,_=>simp[oO]at h1
          | n+1,h1,ih =>
           cases hE:dJ P σ σ.length (ev tm) o.op with
           |none=>rw[hE]at h1;simp[oO]at h1
           |some x =>
            obtain⟨r,σ'⟩:=x;rw[hE]at h1;simp only[oO]at h1;exact⟨r,σ',rfl,ih n (by omega) _ _ _ _ h1⟩
  |exit id=>cases l<;>(simp only[fx]at h;exact(lZ k _ _ _ h:aC P lo Q k _ ⟨tm,σ⟩))
  |goto id=>cases l<;>(simp only[fx]at h;exact(lZ k _ _ _ h:aC P lo Q k _ ⟨tm,σ⟩))
  |ret=>cases l<;>(simp only[fx]at h;exact(lZ k _ _ _ h:aC P lo Q k _ ⟨tm,σ⟩))
  |panic u=>cases l<;>(simp only[fx]at h;exact(lZ k _ _ _ h:aC P lo Q k _ ⟨tm,σ⟩))
 | .cG id :: k =>
  cases e with
  |exit xo =>
   simp only[fx]at h;simp only[aC];split at h
   ·rename_i e;rw[if_pos e];exact lZ _ _ _ _ h
   ·rename_i e;rw[if_neg e];exact lZ _ _ _ _ h
  |normal=>simp only[fx]at h;exact(lZ k _ _ _ h:aC P lo Q k _ ⟨tm,σ⟩)
  |goto id=>simp only[fx]at h;exact(lZ k _ _ _ h:aC P lo Q k _ ⟨tm,σ⟩)
  |ret=>simp only[fx]at h;exact(lZ k _ _ _ h:aC P lo Q k _ ⟨tm,σ⟩)
  |panic u=>simp only[fx]at h;exact(lZ k _ _ _ h:aC P lo Q k _ ⟨tm,σ⟩)
 |.Kh :: k =>
  have h:fx P lo Q n k e tm σ:=by cases e<;>simpa only[fx] using h
  exact Yt4.2 (lZ k _ _ _ h)
 |.Ds :: k =>
  cases e with
  |goto l=>simp only[fx]at h
  |normal=>simp only[fx]at h;exact(⟨by simp,lZ k _ _ _ h⟩:(∀l,cB.normal≠.goto l)/\aC P lo Q k .normal ⟨tm,σ⟩)
  |exit id=>simp only[fx]at h;exact(⟨by simp,lZ k _ _ _ h⟩:(∀l,cB.exit id≠.goto l)/\aC P lo Q k (.exit id) ⟨tm,σ⟩)
  |ret=>simp only[fx]at h;exact(⟨by simp,lZ k _ _ _ h⟩:(∀l,cB.ret≠.goto l)/\aC P lo Q k .ret ⟨tm,σ⟩)
  |panic u=>simp only[fx]at h;exact(⟨by simp,lZ k _ _ _ h⟩:(∀l,cB.panic u≠.goto l)/\aC P lo Q k (.panic u) ⟨tm,σ⟩)
theorem aC.go (n:Nat){k:List KI}{e:cB}{tm:List ah}{σ:av}(h:fx P lo Q n k e tm σ):aC P lo Q k e ⟨tm,σ⟩:=EO n k e tm σ h
theorem aC.g {k:List KI}{e:cB}{tm:List ah}{σ:av}(h:fx P lo Q 1000 k e tm σ):aC P lo Q k e ⟨tm,σ⟩:=aC.go 1000 h
theorem aC.loop {ι:Type} (I : ι->St) (μ : ι->Nat) {c:Code} {k:List KI} {st:St} (x0 : ι) (h0:(I x0).le st) (iG:∀x,lo.n<=(I x).σ.length)
  (round:∀x,aC P lo (cB.then (λs=>∃y,(I y).le s/\μ y < μ x) (λe s=>aC P lo Q k e s)) [.code c] .normal (I x)):aC P lo Q (.code (.loop c):: k) .normal st :=
 jn.loop I μ x0 h0 iG λx=>jn.mono (round x) λe s q=>q
end
end Go.dq
