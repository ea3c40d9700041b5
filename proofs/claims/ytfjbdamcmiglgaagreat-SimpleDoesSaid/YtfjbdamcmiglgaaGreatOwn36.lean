/- Part 36 of what the claim rests on. -/
import Derived.Test.YtfjbdamcmiglgaaGreatOwn35
set_option linter.all false
namespace Go.dq
open Go
section
variable {P:Program}{lo:Ctx}{st eG:St}{Q:cB->St->Prop}{π:Nat->Nat}{σ:av}{tm:List ah}
theorem jn.wr {c:Code}(h:Wr lo.n π eG st)(iG:lo.n<=eG.σ.length)(he:jn P lo c eG Q):jn P lo c st Q:=by
 intro X base mb D β a w b k cs h1 h2 h3 oT;obtain⟨hw,hx⟩:=h.rel h3 iG;obtain⟨e,lp,fI,a1,w1,q,g1,g2,g3,g4⟩:=he X base mb D _ a w b k cs iG h2 hw (oT.ext hx);exact⟨e,lp,fI,a1,w1,q,g1,g2,hx.trans g3,g4⟩
theorem aC.EB {c:Code}{k:List KI}(h:Wr lo.n π eG st)(iG:lo.n<=eG.σ.length)(he:aC P lo Q (.code c :: k) .normal eG):aC P lo Q (.code c :: k) .normal st:=by
 simp only[aC]at he ⊢;exact jn.wr h iG he
theorem Yg (h:∀b,π b=b){n:Nat}{l:List ah}(hl:bG n l):eC π l=l:=sP π n (λb _=>h b) l hl
theorem aC.pad {c:Code} {k:List KI} (m:Nat) (iG:lo.n<=σ.length) (bx:bG σ.length tm) (hs:bH σ.length σ) (h:aC P lo Q (.code c :: k) .normal ⟨tm,σ++List.replicate m none⟩):aC P lo Q (.code c :: k) .normal ⟨tm,σ⟩:=by
 have hl:(σ++List.replicate m none).length = σ.length+m:=by simp
 refine aC.EB (π:=λb=>b) ⟨λb _=>rfl,λb b' _ _ e=>e,?_,λb x hb=>?_,?_,λb x hb=>?_⟩ (by simp only[hl];omega) h
 ·simp only[Yg (π:=λb=>b) (λ_=>rfl) bx];exact OJ _
 ·have oP:=yU.1 hb;simp only
  rw[oP,CL (λb=>b) σ.length (λb _=>rfl) x (sq hs b x oP)]
 ·simp only[hl];exact iD (by omega) bx
 ·simp only[hl];exact Nq (by omega) (sq hs b x (yU.1 hb))
theorem ak.iq {g:FuncId} {fn:Func} {c:Code} {first captured args all:List ah} {K:ah->av->Prop} {m:Nat} {rs:List ResultVar} (hf:P.funcs[g]? = some fn) (hb:fn.body=some c) (hr:fn.results.toList=rs)
  (fj : first ++ args ++ captured = all) (hm : fn.ntmps - all.length = m) (fe : (fn.name == "runtime.NumGoroutine") = false)
  (h:aC P ⟨σ.length,none⟩ (rL P rs (mI K σ.length)) [.code c] .normal ⟨all++List.replicate m .undef,σ⟩):ak P (.fn g first captured) args σ K:=by
 subst hr hm;exact ak.sh (by rw[fj];exact cj.drop (cj.body hf hb fe h))
def aw (m n:Nat)(a:ah):Prop:=∀ρ:Nat->Nat,(∀b,b<m\/n<=b->ρ b=b)->ez ρ a=a
def Mf (m n:Nat)(b:Option bS):Prop:=∀ρ:Nat->Nat,(∀b,b<m\/n<=b->ρ b=b)->∀x,b=some x->eo ρ x=x
theorem GG {m n:Nat}:qt m n []=True:=eq_true λ_ _=>rfl
theorem Gz {m n:Nat} {a:ah} {l:List ah}:qt m n (a :: l)=(aw m n a/\qt m n l):=by
 apply propext;constructor
 ·intro h;have h':∀ρ,(∀b,b<m\/n<=b->ρ b=b)->ez ρ a=a/\eC ρ l=l:=λρ eI=>by
   have:=h ρ eI;simpa[eC] using this
  exact⟨λρ eI=>(h' ρ eI).1,λρ eI=>(h' ρ eI).2⟩
 ·rintro⟨h1,h2⟩ ρ eI;simp only[eC];rw[h1 ρ eI,h2 ρ eI]
theorem XE {m n:Nat}:wD m n []=True:=eq_true λ_ _ _ h=>by simp at h
theorem Ww {m n:Nat} {b:Option bS} {τ:av}:wD m n (b :: τ)=(Mf m n b/\wD m n τ):=by
 apply propext;constructor
 ·exact λh=>⟨λρ eI x e=>h ρ eI x (by simp[e]),λρ eI x e=>h ρ eI x (by simp[e])⟩
 ·rintro⟨h1,h2⟩ ρ eI x e;rcases aU.1 e with e|e
  ·exact h1 ρ eI x e.symm
  ·exact h2 ρ eI x e
theorem E2 {m n:Nat}{a:ah}(h:a.low m):aw m n a:=λρ eI=>Iy ρ m (λb hb=>eI b (.inl hb)) a h
theorem Yeo {m n:Nat}{l:List ah}(h:bG m l):qt m n l:=λρ eI=>sP ρ m (λb hb=>eI b (.inl hb)) l h
theorem Yxh {m n b o:Nat}(h:b<m\/n<=b):aw m n (.ptr b o):=λρ eI=>by simp only[ez,eI b h]
theorem Xb4 {m n b i f:Nat}(h:b<m\/n<=b):aw m n (.rp b i f):=λρ eI=>by simp only[ez,eI b h]
theorem Va {m n b o c s:Nat}(h:b<m\/n<=b):aw m n (.os b o c s):=λρ eI=>by simp only[ez,eI b h]
theorem Yr9 {m n:Nat}{l:List ah}:Mf m n (some (.var l))=qt m n l:=propext
 ⟨λh ρ eI=>by have:=h ρ eI _ rfl;simpa[eo] using this,λh ρ eI x e=>by cases e;simp only[eo];rw[h ρ eI]⟩
theorem Ytk {m n f:Nat}{l:List ah}:Mf m n (some (.row l f))=qt m n l:=propext
 ⟨λh ρ eI=>by have:=h ρ eI _ rfl;simpa[eo] using this,λh ρ eI x e=>by cases e;simp only[eo];rw[h ρ eI]⟩
theorem Ybr {σ:av} (hs:bH σ.length σ):iH (pi []) σ 0 σ:=by
 have key:∀(r pre:av),pre++r = σ->iH (pi []) σ pre.length r:=by
  intro r
  induction r with
  |nil=>intro _ _;trivial
  | cons b r ih =>
   intro pre hp;have hr:=ih (pre++[b]) (by rw[<-hp,cg];rfl);rw[aA,dN]at hr;cases b with
   |none=>exact hr
   |some x =>
    have hx : σ[pre.length]? = some (some x):=by rw[<-hp,b9 (ae _),dF];rfl
    refine⟨?_,hr⟩;rw[CL (pi []) σ.length (λb _=>rfl) x (sq hs _ x hx)];show(σ[pre.length]?).join=some x;rw[hx];rfl
 exact key σ [] rfl
theorem O9 (lo n:Nat):sL [] lo n=true:=by
 simp only[sL,aG,bu,cd,cb,beq_iff_eq,bne_iff_ne];exact⟨λb _=>rfl,λi _ j _=>by by_cases h:i=j;exact .inl h;exact .inr h⟩
theorem ph {n m:Nat}(h:n<=m):∀ {σ:av},bH n σ->bH m σ
 |[],_=>trivial
 |none :: _,hs=>⟨trivial,ph h hs.2⟩
 |some _ :: _,hs=>⟨Nq h hs.1,ph h hs.2⟩
theorem yS {n:Nat}{a:Option bS}{σ:av}:bH n (a :: σ)=(ke n a/\bH n σ):=rfl
theorem qO {n:Nat}{τ:av}:∀ {σ:av},bH n σ->bH n τ->bH n (σ++τ)
 |[],_,h=>h
 |_ :: _,hs,h=>⟨hs.1,qO hs.2 h⟩
theorem zF {n:Nat}{b:bS}:ke n (some b)=b.low n:=rfl
theorem Ysw {l:List (Nat×Nat)}{lo m n:Nat}(h:lo<=m)(hp:sL l m n=true):sL l lo n=true:=by
 simp only[sL,aG,bu,cd]at hp ⊢;exact⟨λb hb=>hp.1 b (by omega),hp.2⟩
theorem Lv {l:List (Nat×Nat)}{lo n:Nat}(h:sL l lo n=true):∀b b',b<n->b'<n->pi l b=pi l b'->b=b':=by
 simp only[sL,aG,bu,cd,cb,beq_iff_eq,bne_iff_ne]at h;exact λb b' l1 l2 e=>(h.2 b l1 b' l2).resolve_right (λn=>n e)
theorem Ct {π:Nat->Nat} {B own τ:av} (h:bH B.length B) (HB:∀b,b<B.length->π b=b) (h2:iH π (B++τ) B.length own):iH π (B++τ) 0 (B++own):=by
 have key:∀(r pre:av),pre++r=B->iH π (B++τ) pre.length (r++own):=by
  intro r
  induction r with
  |nil=>intro pre hp;rw[bf]at hp;subst hp;exact h2
  | cons b r ih =>
   intro pre hp;have hr:=ih (pre++[b]) (by rw[<-hp,cg];rfl);rw[aA,dN]at hr;have bx:pre.length<B.length:=by rw[<-hp];simp
   cases b with
   |none=>exact hr
   |some x =>
    have hx:B[pre.length]? = some (some x):=by rw[<-hp,b9 (ae _),dF];rfl
    refine⟨?_,hr⟩;rw[HB _ bx,CL π B.length HB x (sq h _ x hx)];show((B++τ)[pre.length]?).join=some x;rw[cK bx,hx];rfl
 exact key B [] rfl
theorem ak.stay {f r0:ah} {args:List ah} {n0 m:Nat} {S1:av} (hl:S1.length=m) (hs:bH m S1) (h:ak P f args σ (λr σ'=>r=r0/\σ'=S1)) :
  ak P f args σ (λr σ'=>r=r0/\m<=σ'.length/\bH σ'.length σ'/\∃π:Nat->Nat,(∀b,b<n0->π b=b)/\(∀b b',b<m->b'<m->π b = π b'->b=b')/\iH π σ' 0 S1):=by
 refine h.mono ?_;rintro r σ' ⟨rfl,rfl⟩;subst hl;exact⟨rfl,ae _,hs,pi [],λ_ _=>rfl,Lv (lo:=0) (O9 _ _),Ybr hs⟩
theorem ak.move {f r0:ah} {args:List ah} {n0 m:Nat} {S1 S':av} (l:List (Nat×Nat)) (hl:m<=S'.length) (hs:bH S'.length S') (hp:sL l n0 m=true) (hr:iH (pi l) S' 0 S1) (h:ak P f args σ (λr σ'=>r=r0/\σ'=S')) :
  ak P f args σ (λr σ'=>r=r0/\m<=σ'.length/\bH σ'.length σ'/\∃π:Nat->Nat,(∀b,b<n0->π b=b)/\(∀b b',b<m->b'<m->π b = π b'->b=b')/\iH π σ' 0 S1):=by
 refine h.mono ?_;rintro r σ' ⟨rfl,rfl⟩;have JM:=hp;simp only[sL,aG,bu,cd,beq_iff_eq]at JM;exact⟨rfl,hl,hs,pi l,JM.1,Lv hp,hr⟩
end
end Go.dq
