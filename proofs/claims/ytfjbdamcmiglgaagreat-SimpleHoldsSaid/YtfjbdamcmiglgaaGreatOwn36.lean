/- Part 36 of my own framework and of the walks of functions: AcsK. -/
import Derived.Test.YtfjbdamcmiglgaaGreatOwn35
set_option linter.unusedVariables false
set_option linter.unusedSectionVars false
set_option linter.unusedSimpArgs false
namespace Go.dm
open Go
section
variable {P:Program} {lo:Ctx} {st eL:St} {Q:ct→St→Prop} {π:Nat→Nat} {σ:ai} {tm:List ah}
theorem iy.wr {c:Code} (h:Wr lo.n π eL st) (jg:lo.n≤eL.σ.length) (he:iy P lo c eL Q):iy P lo c st Q:=by
 intro X base mb D β a w b k cs h1 h2 h3 mD;obtain ⟨hw,hx⟩:=h.rel h3 jg;obtain ⟨e,kK,fy,a1,w1,q,g1,g2,g3,g4⟩:=he X base mb D _ a w b k cs jg h2 hw (mD.ext hx);exact ⟨e,kK,fy,a1,w1,q,g1,g2,hx.trans g3,g4⟩
theorem aG.Yr {c:Code} {k:List KI} (h:Wr lo.n π eL st) (jg:lo.n≤eL.σ.length) (he:aG P lo Q (.code c :: k) .normal eL):aG P lo Q (.code c :: k) .normal st:=by
 simp only [aG] at he ⊢;exact iy.wr h jg he
theorem Vs (h:∀ b,π b=b) {n:Nat} {l:List ah} (hl:bF n l):eK π l=l:=ry π n (fun b _=>h b) l hl
theorem aG.pad {c:Code} {k:List KI} (m:Nat) (jg:lo.n≤σ.length) (bA:bF σ.length tm) (hs:bD σ.length σ) (h:aG P lo Q (.code c :: k) .normal ⟨tm,σ++List.replicate m none⟩):aG P lo Q (.code c :: k) .normal ⟨tm,σ⟩:=by
 have hl:(σ++List.replicate m none).length = σ.length+m:=by simp
 refine aG.Yr (π:=fun b=>b) ⟨fun b _=>rfl,fun b b' _ _ e=>e,?_,fun b x hb=>?_,?_,fun b x hb=>?_⟩ (by simp only [hl];omega) h
 ·simp only [Vs (π:=fun b=>b) (fun _=>rfl) bA];exact Mm _
 ·have nN:=xE.1 hb;simp only
  rw [nN,Bf (fun b=>b) σ.length (fun b _=>rfl) x (qR hs b x nN)]
 ·simp only [hl];exact iO (by omega) bA
 ·simp only [hl];exact Ll (by omega) (qR hs b x (xE.1 hb))
theorem aq.mI {g:FuncId} {fn:Func} {c:Code} {first captured args all:List ah} {K:ah→ai→Prop} {m:Nat} {rs:List ResultVar} (hf:P.funcs[g]? = some fn) (hb:fn.body=some c) (hr:fn.results.toList=rs)
  (fq : first ++ args ++ captured = all) (hm : fn.ntmps - all.length = m) (ff : (fn.name == "runtime.NumGoroutine") = false)
  (h:aG P ⟨σ.length,none⟩ (rq P rs (na K σ.length)) [.code c] .normal ⟨all++List.replicate m .undef,σ⟩):aq P (.fn g first captured) args σ K:=by
 subst hr hm;exact aq.sh (by rw [fq];exact cg.drop (cg.body hf hb ff h))
def aw (m n:Nat) (a:ah):Prop:=∀ ρ:Nat→Nat,(∀ b,b<m∨n≤b→ρ b=b)→ek ρ a=a
def Ka (m n:Nat) (b:Option bO):Prop:=∀ ρ:Nat→Nat,(∀ b,b<m∨n≤b→ρ b=b)→∀ x,b=some x→ef ρ x=x
theorem E7 {m n:Nat}:pA m n []=True:=eq_true fun _ _=>rfl
theorem EZ {m n:Nat} {a:ah} {l:List ah}:pA m n (a :: l)=(aw m n a∧pA m n l):=by
 apply propext;constructor
 ·intro h;have h':∀ ρ,(∀ b,b<m∨n≤b→ρ b=b)→ek ρ a=a∧eK ρ l=l:=fun ρ er=>by
   have:=h ρ er;simpa [eK] using this
  exact ⟨fun ρ er=>(h' ρ er).1,fun ρ er=>(h' ρ er).2⟩
 ·rintro ⟨h1,h2⟩ ρ er;simp only [eK];rw [h1 ρ er,h2 ρ er]
theorem Vh {m n:Nat}:uX m n []=True:=eq_true fun _ _ _ h=>by simp at h
theorem TV {m n:Nat} {b:Option bO} {τ:ai}:uX m n (b :: τ)=(Ka m n b∧uX m n τ):=by
 apply propext;constructor
 ·exact fun h=>⟨fun ρ er x e=>h ρ er x (by simp [e]),fun ρ er x e=>h ρ er x (by simp [e])⟩
 ·rintro ⟨h1,h2⟩ ρ er x e;rcases aQ.1 e with e | e
  ·exact h1 ρ er x e.symm
  ·exact h2 ρ er x e
theorem Du {m n:Nat} {a:ah} (h:a.low m):aw m n a:=fun ρ er=>G2 ρ m (fun b hb=>er b (.inl hb)) a h
theorem Yk5 {m n:Nat} {l:List ah} (h:bF m l):pA m n l:=fun ρ er=>ry ρ m (fun b hb=>er b (.inl hb)) l h
theorem Ywc {m n b o:Nat} (h:b<m∨n≤b):aw m n (.ptr b o):=fun ρ er=>by simp only [ek,er b h]
theorem Zr {m n b i f:Nat} (h:b<m∨n≤b):aw m n (.rp b i f):=fun ρ er=>by simp only [ek,er b h]
theorem SB {m n b o c s:Nat} (h:b<m∨n≤b):aw m n (.os b o c s):=fun ρ er=>by simp only [ek,er b h]
theorem Yv9 {m n:Nat} {l:List ah}:Ka m n (some (.var l))=pA m n l:=propext
 ⟨fun h ρ er=>by have:=h ρ er _ rfl;simpa [ef] using this,fun h ρ er x e=>by cases e;simp only [ef];rw [h ρ er]⟩
theorem Yre {m n f:Nat} {l:List ah}:Ka m n (some (.row l f))=pA m n l:=propext
 ⟨fun h ρ er=>by have:=h ρ er _ rfl;simpa [ef] using this,fun h ρ er x e=>by cases e;simp only [ef];rw [h ρ er]⟩
theorem Yc3 {σ:ai} (hs:bD σ.length σ):gW (pi []) σ 0 σ:=by
 have key:∀ (r pre:ai),pre++r = σ→gW (pi []) σ pre.length r:=by
  intro r
  induction r with
  | nil=>intro _ _;trivial
  | cons b r ih =>
   intro pre hp;have hr:=ih (pre++[b]) (by rw [← hp,cU];rfl);rw [az,dF] at hr;cases b with
   | none=>exact hr
   | some x =>
    have hx : σ[pre.length]? = some (some x):=by rw [← hp,bT (ae _),eV];rfl
    refine ⟨?_,hr⟩;rw [Bf (pi []) σ.length (fun b _=>rfl) x (qR hs _ x hx)];show (σ[pre.length]?).join=some x;rw [hx];rfl
 exact key σ [] rfl
theorem Nk (lo n:Nat):rk [] lo n=true:=by
 simp only [rk,aB,a8,cj,bR,beq_iff_eq,bne_iff_ne];exact ⟨fun b _=>rfl,fun i _ j _=>by by_cases h:i=j;exact .inl h;exact .inr h⟩
theorem oe {n m:Nat} (h:n≤m):∀ {σ:ai},bD n σ→bD m σ
 | [],_=>trivial
 | none :: _,hs=>⟨trivial,oe h hs.2⟩
 | some _ :: _,hs=>⟨Ll h hs.1,oe h hs.2⟩
theorem xD {n:Nat} {a:Option bO} {σ:ai}:bD n (a :: σ)=(jK n a∧bD n σ):=rfl
theorem pS {n:Nat} {τ:ai}:∀ {σ:ai},bD n σ→bD n τ→bD n (σ++τ)
 | [],_,h=>h
 | _ :: _,hs,h=>⟨hs.1,pS hs.2 h⟩
theorem yk {n:Nat} {b:bO}:jK n (some b)=b.low n:=rfl
theorem Ytj {l:List (Nat×Nat)} {lo m n:Nat} (h:lo≤m) (hp:rk l m n=true):rk l lo n=true:=by
 simp only [rk,aB,a8,cj] at hp ⊢;exact ⟨fun b hb=>hp.1 b (by omega),hp.2⟩
theorem JH {l:List (Nat×Nat)} {lo n:Nat} (h:rk l lo n=true):∀ b b',b<n→b'<n→pi l b=pi l b'→b=b':=by
 simp only [rk,aB,a8,cj,bR,beq_iff_eq,bne_iff_ne] at h;exact fun b b' l1 l2 e=>(h.2 b l1 b' l2).resolve_right (fun n=>n e)
theorem A7 {π:Nat→Nat} {B own τ:ai} (h:bD B.length B) (F2:∀ b,b<B.length→π b=b) (h2:gW π (B++τ) B.length own):gW π (B++τ) 0 (B++own):=by
 have key:∀ (r pre:ai),pre++r=B→gW π (B++τ) pre.length (r++own):=by
  intro r
  induction r with
  | nil=>intro pre hp;rw [bu] at hp;subst hp;exact h2
  | cons b r ih =>
   intro pre hp;have hr:=ih (pre++[b]) (by rw [← hp,cU];rfl);rw [az,dF] at hr;have bA:pre.length<B.length:=by rw [← hp];simp
   cases b with
   | none=>exact hr
   | some x =>
    have hx:B[pre.length]? = some (some x):=by rw [← hp,bT (ae _),eV];rfl
    refine ⟨?_,hr⟩;rw [F2 _ bA,Bf π B.length F2 x (qR h _ x hx)];show ((B++τ)[pre.length]?).join=some x;rw [cF bA,hx];rfl
 exact key B [] rfl
theorem aq.stay {f r0:ah} {args:List ah} {n0 m:Nat} {S1:ai} (hl:S1.length=m) (hs:bD m S1) (h:aq P f args σ (fun r σ'=>r=r0∧σ'=S1)) :
  aq P f args σ (fun r σ'=>r=r0∧m≤σ'.length∧bD σ'.length σ'∧∃ π:Nat→Nat,(∀ b,b<n0→π b=b)∧(∀ b b',b<m→b'<m→π b = π b'→b=b')∧gW π σ' 0 S1):=by
 refine h.mono ?_;rintro r σ' ⟨rfl,rfl⟩;subst hl;exact ⟨rfl,ae _,hs,pi [],fun _ _=>rfl,JH (lo:=0) (Nk _ _),Yc3 hs⟩
theorem aq.move {f r0:ah} {args:List ah} {n0 m:Nat} {S1 S':ai} (l:List (Nat×Nat)) (hl:m≤S'.length) (hs:bD S'.length S') (hp:rk l n0 m=true) (hr:gW (pi l) S' 0 S1) (h:aq P f args σ (fun r σ'=>r=r0∧σ'=S')) :
  aq P f args σ (fun r σ'=>r=r0∧m≤σ'.length∧bD σ'.length σ'∧∃ π:Nat→Nat,(∀ b,b<n0→π b=b)∧(∀ b b',b<m→b'<m→π b = π b'→b=b')∧gW π σ' 0 S1):=by
 refine h.mono ?_;rintro r σ' ⟨rfl,rfl⟩;have Yb:=hp;simp only [rk,aB,a8,cj,beq_iff_eq] at Yb;exact ⟨rfl,hl,hs,pi l,Yb.1,JH hp,hr⟩
end
end Go.dm
