/- Part 36 of my own framework and of the walks of functions: AcsK. -/
import Derived.Test.YtfjbdamcmiglgaaGreatOwn35
set_option linter.unusedVariables false
set_option linter.unusedSectionVars false
set_option linter.unusedSimpArgs false
namespace Go.c8
open Go
section
variable {P:Program} {lo:Ctx} {st ef:St} {Q:cb→St→Prop} {π:Nat→Nat} {σ:ai} {tm:List ae}
theorem iw.wr {c:Code} (h:Wr lo.n π ef st) (iU:lo.n≤ef.σ.length) (he:iw P lo c ef Q):iw P lo c st Q:=by
 intro X base mb D β a w b k cs h1 h2 h3 nr
 obtain ⟨hw,hx⟩:=h.rel h3 iU
 obtain ⟨e,kp,eX,a1,w1,q,g1,g2,g3,g4⟩:=he X base mb D _ a w b k cs iU h2 hw (nr.ext hx)
 exact ⟨e,kp,eX,a1,w1,q,g1,g2,hx.trans g3,g4⟩
theorem aK.wrC {c:Code} {k:List KI} (h:Wr lo.n π ef st) (iU:lo.n≤ef.σ.length) (he:aK P lo Q (.code c :: k) .normal ef):aK P lo Q (.code c :: k) .normal st:=by
 simp only [aK] at he ⊢
 exact iw.wr h iU he
theorem Zj (h:∀ b,π b=b) {n:Nat} {l:List ae} (hl:bz n l):d_ π l=l:=qx π n (fun b _=>h b) l hl
theorem aK.pad {c:Code} {k:List KI} (m:Nat) (iU:lo.n≤σ.length) (bG:bz σ.length tm) (hs:bw σ.length σ) (h:aK P lo Q (.code c :: k) .normal ⟨tm,σ++List.replicate m none⟩):aK P lo Q (.code c :: k) .normal ⟨tm,σ⟩:=by
 have hl:(σ++List.replicate m none).length = σ.length+m:=by simp
 refine aK.wrC (π:=fun b=>b) ⟨fun b _=>rfl,fun b b' _ _ e=>e,?_,fun b x hb=>?_,?_,fun b x hb=>?_⟩ (by simp only [hl];omega) h
 ·simp only [Zj (π:=fun b=>b) (fun _=>rfl) bG];exact KL _
 ·have nn:=wS.1 hb
  simp only
  rw [nn,Bv (fun b=>b) σ.length (fun b _=>rfl) x (qL hs b x nn)]
 ·simp only [hl];exact iC (by omega) bG
 ·simp only [hl];exact Kb (by omega) (qL hs b x (wS.1 hb))
theorem aq.mq {g:FuncId} {fn:Func} {c:Code} {first captured args all:List ae} {K:ae→ai→Prop} {m:Nat} {rs:List ResultVar} (hf:P.funcs[g]? = some fn) (hb:fn.body=some c) (hr:fn.results.toList=rs)
  (e8 : first ++ args ++ captured = all) (hm : fn.ntmps - all.length = m) (eI : (fn.name == "runtime.NumGoroutine") = false)
  (h:aK P ⟨σ.length,none⟩ (qv P rs (mJ K σ.length)) [.code c] .normal ⟨all++List.replicate m .undef,σ⟩):aq P (.fn g first captured) args σ K:=by
 subst hr hm
 exact aq.sh (by rw [e8];exact bT.drop (bT.body hf hb eI h))
def aw (m n:Nat) (a:ae):Prop:=∀ ρ:Nat→Nat,(∀ b,b<m∨n≤b→ρ b=b)→dL ρ a=a
def Jk (m n:Nat) (b:Option bE):Prop:=∀ ρ:Nat→Nat,(∀ b,b<m∨n≤b→ρ b=b)→∀ x,b=some x→dI ρ x=x
theorem Ea {m n:Nat}:oW m n []=True:=eq_true fun _ _=>rfl
theorem D8 {m n:Nat} {a:ae} {l:List ae}:oW m n (a :: l)=(aw m n a∧oW m n l):=by
 apply propext
 constructor
 ·intro h
  have h':∀ ρ,(∀ b,b<m∨n≤b→ρ b=b)→dL ρ a=a∧d_ ρ l=l:=fun ρ dO=>by
   have:=h ρ dO
   simpa [d_] using this
  exact ⟨fun ρ dO=>(h' ρ dO).1,fun ρ dO=>(h' ρ dO).2⟩
 ·rintro ⟨h1,h2⟩ ρ dO
  simp only [d_];rw [h1 ρ dO,h2 ρ dO]
theorem Tt {m n:Nat}:ub m n []=True:=eq_true fun _ _ _ h=>by simp at h
theorem Sd {m n:Nat} {b:Option bE} {τ:ai}:ub m n (b :: τ)=(Jk m n b∧ub m n τ):=by
 apply propext
 constructor
 ·exact fun h=>⟨fun ρ dO x e=>h ρ dO x (by simp [e]),fun ρ dO x e=>h ρ dO x (by simp [e])⟩
 ·rintro ⟨h1,h2⟩ ρ dO x e
  rcases aR.1 e with e | e
  ·exact h1 ρ dO x e.symm
  ·exact h2 ρ dO x e
theorem CB {m n:Nat} {a:ae} (h:a.low m):aw m n a:=fun ρ dO=>F6 ρ m (fun b hb=>dO b (.inl hb)) a h
theorem ZA {m n:Nat} {l:List ae} (h:bz m l):oW m n l:=fun ρ dO=>qx ρ m (fun b hb=>dO b (.inl hb)) l h
theorem Yx7 {m n b o:Nat} (h:b<m∨n≤b):aw m n (.ptr b o):=fun ρ dO=>by simp only [dL,dO b h]
theorem XX {m n b i f:Nat} (h:b<m∨n≤b):aw m n (.rp b i f):=fun ρ dO=>by simp only [dL,dO b h]
theorem QK {m n b o c s:Nat} (h:b<m∨n≤b):aw m n (.os b o c s):=fun ρ dO=>by simp only [dL,dO b h]
theorem Yqh {m n:Nat} {l:List ae}:Jk m n (some (.var l))=oW m n l:=propext
 ⟨fun h ρ dO=>by have:=h ρ dO _ rfl;simpa [dI] using this,fun h ρ dO x e=>by cases e;simp only [dI];rw [h ρ dO]⟩
theorem Yps {m n f:Nat} {l:List ae}:Jk m n (some (.row l f))=oW m n l:=propext
 ⟨fun h ρ dO=>by have:=h ρ dO _ rfl;simpa [dI] using this,fun h ρ dO x e=>by cases e;simp only [dI];rw [h ρ dO]⟩
theorem Yp {σ:ai} (hs:bw σ.length σ):gE (pi []) σ 0 σ:=by
 have key:∀ (r pre:ai),pre++r = σ→gE (pi []) σ pre.length r:=by
  intro r
  induction r with
  | nil=>intro _ _;trivial
  | cons b r ih =>
   intro pre hp
   have hr:=ih (pre++[b]) (by rw [← hp,cx];rfl)
   rw [ay,dm] at hr
   cases b with
   | none=>exact hr
   | some x =>
    have hx : σ[pre.length]? = some (some x):=by rw [← hp,bK (ah _),en];rfl
    refine ⟨?_,hr⟩
    rw [Bv (pi []) σ.length (fun b _=>rfl) x (qL hs _ x hx)]
    show (σ[pre.length]?).join=some x
    rw [hx];rfl
 exact key σ [] rfl
theorem LL (lo n:Nat):qs [] lo n=true:=by
 simp only [qs,aC,bj,cA,b9,beq_iff_eq,bne_iff_ne]
 exact ⟨fun b _=>rfl,fun i _ j _=>by by_cases h:i=j;exact .inl h;exact .inr h⟩
theorem nL {n m:Nat} (h:n≤m):∀ {σ:ai},bw n σ→bw m σ
 | [],_=>trivial
 | none :: _,hs=>⟨trivial,nL h hs.2⟩
 | some _ :: _,hs=>⟨Kb h hs.1,nL h hs.2⟩
theorem wQ {n:Nat} {a:Option bE} {σ:ai}:bw n (a :: σ)=(jw n a∧bw n σ):=rfl
theorem py {n:Nat} {τ:ai}:∀ {σ:ai},bw n σ→bw n τ→bw n (σ++τ)
 | [],_,h=>h
 | _ :: _,hs,h=>⟨hs.1,py hs.2 h⟩
theorem xp {n:Nat} {b:bE}:jw n (some b)=b.low n:=rfl
theorem Yqu {l:List (Nat×Nat)} {lo m n:Nat} (h:lo≤m) (hp:qs l m n=true):qs l lo n=true:=by
 simp only [qs,aC,bj,cA] at hp ⊢
 exact ⟨fun b hb=>hp.1 b (by omega),hp.2⟩
theorem IX {l:List (Nat×Nat)} {lo n:Nat} (h:qs l lo n=true):∀ b b',b<n→b'<n→pi l b=pi l b'→b=b':=by
 simp only [qs,aC,bj,cA,b9,beq_iff_eq,bne_iff_ne] at h
 exact fun b b' l1 l2 e=>(h.2 b l1 b' l2).resolve_right (fun n=>n e)
theorem z7 {π:Nat→Nat} {B own τ:ai} (h:bw B.length B) (E1:∀ b,b<B.length→π b=b) (h2:gE π (B++τ) B.length own):gE π (B++τ) 0 (B++own):=by
 have key:∀ (r pre:ai),pre++r=B→gE π (B++τ) pre.length (r++own):=by
  intro r
  induction r with
  | nil=>intro pre hp;rw [bq] at hp;subst hp;exact h2
  | cons b r ih =>
   intro pre hp
   have hr:=ih (pre++[b]) (by rw [← hp,cx];rfl)
   rw [ay,dm] at hr
   have bG:pre.length<B.length:=by rw [← hp];simp
   cases b with
   | none=>exact hr
   | some x =>
    have hx:B[pre.length]? = some (some x):=by rw [← hp,bK (ah _),en];rfl
    refine ⟨?_,hr⟩
    rw [E1 _ bG,Bv π B.length E1 x (qL h _ x hx)]
    show ((B++τ)[pre.length]?).join=some x
    rw [cn bG,hx];rfl
 exact key B [] rfl
theorem aq.stay {f r0:ae} {args:List ae} {n0 m:Nat} {S1:ai} (hl:S1.length=m) (hs:bw m S1) (h:aq P f args σ (fun r σ'=>r=r0∧σ'=S1)) :
  aq P f args σ (fun r σ'=>r=r0∧m≤σ'.length∧bw σ'.length σ'∧∃ π:Nat→Nat,(∀ b,b<n0→π b=b)∧(∀ b b',b<m→b'<m→π b = π b'→b=b')∧gE π σ' 0 S1):=by
 refine h.mono ?_
 rintro r σ' ⟨rfl,rfl⟩
 subst hl
 exact ⟨rfl,ah _,hs,pi [],fun _ _=>rfl,IX (lo:=0) (LL _ _),Yp hs⟩
theorem aq.move {f r0:ae} {args:List ae} {n0 m:Nat} {S1 S':ai} (l:List (Nat×Nat)) (hl:m≤S'.length) (hs:bw S'.length S') (hp:qs l n0 m=true) (hr:gE (pi l) S' 0 S1) (h:aq P f args σ (fun r σ'=>r=r0∧σ'=S')) :
  aq P f args σ (fun r σ'=>r=r0∧m≤σ'.length∧bw σ'.length σ'∧∃ π:Nat→Nat,(∀ b,b<n0→π b=b)∧(∀ b b',b<m→b'<m→π b = π b'→b=b')∧gE π σ' 0 S1):=by
 refine h.mono ?_
 rintro r σ' ⟨rfl,rfl⟩
 have WM:=hp
 simp only [qs,aC,bj,cA,beq_iff_eq] at WM
 exact ⟨rfl,hl,hs,pi l,WM.1,IX hp,hr⟩
end
end Go.c8
