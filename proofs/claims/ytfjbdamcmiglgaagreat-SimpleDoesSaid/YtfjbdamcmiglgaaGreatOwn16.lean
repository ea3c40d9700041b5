/- Part 16 of what the claim rests on. -/
import Derived.Test.YtfjbdamcmiglgaaGreatOwn15
set_option linter.all false
abbrev gB:=@List.getElem?_cons_zero
namespace Go.dq
open Go
def nA:List ah->List ah->Prop
 |[],[]=>True
 |a :: cI,b :: bs=>(a=b\/a=.undef)/\nA cI bs
 |_,_=>False
def ic:av->av->Prop
 |[],_=>True
 |a :: cI,b :: bs=>(a=b\/a=none)/\ic cI bs
 |_ :: _,[]=>False
def ke (n:Nat):Option bS->Prop
 |some b=>b.low n
 |none=>True
def bH (n:Nat):av->Prop
 |[]=>True
 |a :: cI=>ke n a/\bH n cI
theorem H2:∀ {a b:List ah},nA a b->a.length=b.length/\∀k,k<a.length->a.getD k .undef=.undef\/a.getD k .undef=b.getD k .undef
 |[],[],_=>⟨rfl,λk hk=>by simp at hk⟩
 |a :: cI,b :: bs,h=>by
  obtain⟨h1,h2⟩:=H2 h.2;refine⟨by simp[h1],λk hk=>?_⟩;cases k with
  |zero=>simp only[aV];exact h.1.symm
  |succ k=>simp only[bE];exact h2 k (by simpa using hk)
 |[],_ :: _,h=>h.elim
 |_ :: _,[],h=>h.elim
theorem xe:∀ {a b:av},ic a b->zY a b
 |[],_,_=>λb x h=>by simp at h
 | a :: cI,b :: bs,h=>λi x hx=>by
  cases i with
  |zero =>
   simp only[gB,aM]at hx ⊢;rcases h.1 with e|e
   ·rw[<-e];exact hx
   ·rw[e]at hx;cases hx
  |succ i=>simp only[dS]at hx ⊢;exact xe h.2 i x hx
 |_ :: _,[],h=>h.elim
theorem sq {n:Nat}:∀ {a:av},bH n a->Bm n a
 |[],_=>λb x h=>by simp at h
 | a :: cI,h=>λi x hx=>by
  cases i with
  |zero =>
   simp only[gB,aM]at hx;have:=h.1;rw[hx]at this;exact this
  |succ i=>simp only[dS]at hx;exact sq h.2 i x hx
def zp (kC:List ah)(σ':av)(s:St):Prop:=nA kC s.tm/\ic σ' s.σ/\bG σ'.length kC/\bH σ'.length σ'
theorem T4 {kC:List ah}{σ':av}{s:St}(h:zp kC σ' s):St.le ⟨kC,σ'⟩ s :=
 ⟨(H2 h.1).1,(H2 h.1).2,xe h.2.1,h.2.2.1,sq h.2.2.2⟩
def yH {ι:Type}(P:Program)(lo:Ctx)(Q:cB->St->Prop)(k:List KI)(I : ι->List ah)(S : ι->av)(μ : ι->Nat)(x : ι):cB->St->Prop
 |.normal,s=>∃y,zp (I y) (S y) s/\μ y < μ x
 |e,s=>aC P lo Q k e s
section
variable {P:Program}{lo:Ctx}{Q:cB->St->Prop}
theorem aC.cA {ι:Type} (n:Nat) (I : ι->List ah) (S : ι->av) (μ : ι->Nat) {c:Code} {k:List KI} {tm:List ah} {σ:av} (x0 : ι) (h0:zp (I x0) (S x0) ⟨tm,σ⟩) (iG:∀x,lo.n<=(S x).length)
  (round:∀x,fx P lo (yH P lo Q k I S μ x) n [.code c] .normal (I x) (S x)):aC P lo Q (.code (.loop c):: k) .normal ⟨tm,σ⟩ :=
 aC.loop (ι:=ι) (λx=>⟨I x,S x⟩) μ x0 (T4 h0) iG λx=>by
  have:=EO n _ _ _ _ (round x);refine jn.mono this λe s q=>?_;simp only[aC]at q;cases e with
  |normal=>obtain⟨y,h1,h2⟩:=q;exact⟨y,T4 h1,h2⟩
  |exit id=>exact q
  |goto l=>exact q
  |ret=>exact q
  |panic u=>exact q
def rL (P:Program)(rs:List ResultVar)(K:ah->av->Prop)(e:cB)(s:St):Prop :=
 match e with
 |.normal|.ret=>∃r,gP P s rs=some r/\K r s.σ
 |_=>False
theorem cj.start {g:FuncId} {fn:Func} {c:Code} {args:List ah} {σ:av} {K:ah->av->Prop} {m:Nat} {rs:List ResultVar} (n:Nat) (hf:P.funcs[g]? = some fn) (hb:fn.body=some c) (hr:fn.results.toList=rs) (hm:fn.ntmps-args.length=m)
  (fe : (fn.name == "runtime.NumGoroutine") = false)
  (h:fx P ⟨σ.length,none⟩ (rL P rs K) n [.code c] .normal (args++List.replicate m .undef) σ):cj P g args σ K:=by
 subst hr hm;exact cj.body hf hb fe (EO n _ _ _ _ h)
end
end Go.dq
