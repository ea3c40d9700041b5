/- Part 36 of my own framework and of the walks of functions: AcsK. -/
import Derived.Test.YtfjbdamcmiglgaaGreatOwn35
set_option linter.unusedVariables false
set_option linter.unusedSectionVars false
set_option linter.unusedSimpArgs false
namespace Go.c8
open Go
section
variable {P:Program} {lo:Ctx} {st dV:St} {Q:b9→St→Prop} {π:Nat→Nat} {σ:ai} {tm:List ae}
theorem ib.wr {c:Code} (h:Wr lo.n π dV st) (iJ:lo.n≤dV.σ.length) (he:ib P lo c dV Q):ib P lo c st Q:=by
 intro X base mb D β a w b k cs h1 h2 h3 m9
 obtain ⟨hw,hx⟩:=h.rel h3 iJ
 obtain ⟨e,kb,eO,a1,w1,q,g1,g2,g3,g4⟩:=he X base mb D _ a w b k cs iJ h2 hw (m9.ext hx)
 exact ⟨e,kb,eO,a1,w1,q,g1,g2,hx.trans g3,g4⟩
theorem aK.wrC {c:Code} {k:List KI} (h:Wr lo.n π dV st) (iJ:lo.n≤dV.σ.length) (he:aK P lo Q (.code c :: k) .normal dV):aK P lo Q (.code c :: k) .normal st:=by
 simp only [aK] at he ⊢
 exact ib.wr h iJ he
theorem YR (h:∀ b,π b=b) {n:Nat} {l:List ae} (hl:bx n l):dU π l=l:=qg π n (fun b _=>h b) l hl
theorem aK.pad {c:Code} {k:List KI} (m:Nat) (iJ:lo.n≤σ.length) (bD:bx σ.length tm) (hs:bt σ.length σ) (h:aK P lo Q (.code c :: k) .normal ⟨tm,σ++List.replicate m none⟩):aK P lo Q (.code c :: k) .normal ⟨tm,σ⟩:=by
 have hl:(σ++List.replicate m none).length = σ.length+m:=by simp
 refine aK.wrC (π:=fun b=>b) ⟨fun b _=>rfl,fun b b' _ _ e=>e,?_,fun b x hb=>?_,?_,fun b x hb=>?_⟩ (by simp only [hl];omega) h
 ·simp only [YR (π:=fun b=>b) (fun _=>rfl) bD];exact Kl _
 ·have m0:=wB.1 hb
  simp only
  rw [m0,Bb (fun b=>b) σ.length (fun b _=>rfl) x (qs hs b x m0)]
 ·simp only [hl];exact il (by omega) bD
 ·simp only [hl];exact JB (by omega) (qs hs b x (wB.1 hb))
theorem aq.l8 {g:FuncId} {fn:Func} {c:Code} {first captured args all:List ae} {K:ae→ai→Prop} {m:Nat} {rs:List ResultVar} (hf:P.funcs[g]? = some fn) (hb:fn.body=some c) (hr:fn.results.toList=rs)
  (eK : first ++ args ++ captured = all) (hm : fn.ntmps - all.length = m) (eA : (fn.name == "runtime.NumGoroutine") = false)
  (h:aK P ⟨σ.length,none⟩ (qf P rs (mz K σ.length)) [.code c] .normal ⟨all++List.replicate m .undef,σ⟩):aq P (.fn g first captured) args σ K:=by
 subst hr hm
 exact aq.sh (by rw [eK];exact bS.drop (bS.body hf hb eA h))
def aw (m n:Nat) (a:ae):Prop:=∀ ρ:Nat→Nat,(∀ b,b<m∨n≤b→ρ b=b)→dG ρ a=a
def IF (m n:Nat) (b:Option bE):Prop:=∀ ρ:Nat→Nat,(∀ b,b<m∨n≤b→ρ b=b)→∀ x,b=some x→dE ρ x=x
theorem DX {m n:Nat}:oI m n []=True:=eq_true fun _ _=>rfl
theorem DM {m n:Nat} {a:ae} {l:List ae}:oI m n (a :: l)=(aw m n a∧oI m n l):=by
 apply propext
 constructor
 ·intro h
  have h':∀ ρ,(∀ b,b<m∨n≤b→ρ b=b)→dG ρ a=a∧dU ρ l=l:=fun ρ dJ=>by
   have:=h ρ dJ
   simpa [dU] using this
  exact ⟨fun ρ dJ=>(h' ρ dJ).1,fun ρ dJ=>(h' ρ dJ).2⟩
 ·rintro ⟨h1,h2⟩ ρ dJ
  simp only [dU];rw [h1 ρ dJ,h2 ρ dJ]
theorem Sk {m n:Nat}:tC m n []=True:=eq_true fun _ _ _ h=>by simp at h
theorem QI {m n:Nat} {b:Option bE} {τ:ai}:tC m n (b :: τ)=(IF m n b∧tC m n τ):=by
 apply propext
 constructor
 ·exact fun h=>⟨fun ρ dJ x e=>h ρ dJ x (by simp [e]),fun ρ dJ x e=>h ρ dJ x (by simp [e])⟩
 ·rintro ⟨h1,h2⟩ ρ dJ x e
  rcases aQ.1 e with e | e
  ·exact h1 ρ dJ x e.symm
  ·exact h2 ρ dJ x e
theorem Ci {m n:Nat} {a:ae} (h:a.low m):aw m n a:=fun ρ dJ=>FC ρ m (fun b hb=>dJ b (.inl hb)) a h
theorem Xt {m n:Nat} {l:List ae} (h:bx m l):oI m n l:=fun ρ dJ=>qg ρ m (fun b hb=>dJ b (.inl hb)) l h
theorem Ytz {m n b o:Nat} (h:b<m∨n≤b):aw m n (.ptr b o):=fun ρ dJ=>by simp only [dG,dJ b h]
theorem Yzv {m n b i f:Nat} (h:b<m∨n≤b):aw m n (.rp b i f):=fun ρ dJ=>by simp only [dG,dJ b h]
theorem PL {m n b o c s:Nat} (h:b<m∨n≤b):aw m n (.os b o c s):=fun ρ dJ=>by simp only [dG,dJ b h]
theorem Yre {m n:Nat} {l:List ae}:IF m n (some (.var l))=oI m n l:=propext
 ⟨fun h ρ dJ=>by have:=h ρ dJ _ rfl;simpa [dE] using this,fun h ρ dJ x e=>by cases e;simp only [dE];rw [h ρ dJ]⟩
theorem Yq3 {m n f:Nat} {l:List ae}:IF m n (some (.row l f))=oI m n l:=propext
 ⟨fun h ρ dJ=>by have:=h ρ dJ _ rfl;simpa [dE] using this,fun h ρ dJ x e=>by cases e;simp only [dE];rw [h ρ dJ]⟩
theorem Wu {σ:ai} (hs:bt σ.length σ):gj (pi []) σ 0 σ:=by
 have key:∀ (r pre:ai),pre++r = σ→gj (pi []) σ pre.length r:=by
  intro r
  induction r with
  | nil=>intro _ _;trivial
  | cons b r ih =>
   intro pre hp
   have hr:=ih (pre++[b]) (by rw [← hp,cG];rfl)
   rw [ay,dh] at hr
   cases b with
   | none=>exact hr
   | some x =>
    have hx : σ[pre.length]? = some (some x):=by rw [← hp,bJ (ah _),d_];rfl
    refine ⟨?_,hr⟩
    rw [Bb (pi []) σ.length (fun b _=>rfl) x (qs hs _ x hx)]
    show (σ[pre.length]?).join=some x
    rw [hx];rfl
 exact key σ [] rfl
theorem KV (lo n:Nat):qd [] lo n=true:=by
 simp only [qd,aD,bp,cu,bY,beq_iff_eq,bne_iff_ne]
 exact ⟨fun b _=>rfl,fun i _ j _=>by by_cases h:i=j;exact .inl h;exact .inr h⟩
theorem nx {n m:Nat} (h:n≤m):∀ {σ:ai},bt n σ→bt m σ
 | [],_=>trivial
 | none :: _,hs=>⟨trivial,nx h hs.2⟩
 | some _ :: _,hs=>⟨JB h hs.1,nx h hs.2⟩
theorem wy {n:Nat} {a:Option bE} {σ:ai}:bt n (a :: σ)=(jg n a∧bt n σ):=rfl
theorem o8 {n:Nat} {τ:ai}:∀ {σ:ai},bt n σ→bt n τ→bt n (σ++τ)
 | [],_,h=>h
 | _ :: _,hs,h=>⟨hs.1,o8 hs.2 h⟩
theorem w9 {n:Nat} {b:bE}:jg n (some b)=b.low n:=rfl
theorem Yqo {l:List (Nat×Nat)} {lo m n:Nat} (h:lo≤m) (hp:qd l m n=true):qd l lo n=true:=by
 simp only [qd,aD,bp,cu] at hp ⊢
 exact ⟨fun b hb=>hp.1 b (by omega),hp.2⟩
theorem HZ {l:List (Nat×Nat)} {lo n:Nat} (h:qd l lo n=true):∀ b b',b<n→b'<n→pi l b=pi l b'→b=b':=by
 simp only [qd,aD,bp,cu,bY,beq_iff_eq,bne_iff_ne] at h
 exact fun b b' l1 l2 e=>(h.2 b l1 b' l2).resolve_right (fun n=>n e)
theorem zG {π:Nat→Nat} {B own τ:ai} (h:bt B.length B) (ED:∀ b,b<B.length→π b=b) (h2:gj π (B++τ) B.length own):gj π (B++τ) 0 (B++own):=by
 have key:∀ (r pre:ai),pre++r=B→gj π (B++τ) pre.length (r++own):=by
  intro r
  induction r with
  | nil=>intro pre hp;rw [bn] at hp;subst hp;exact h2
  | cons b r ih =>
   intro pre hp
   have hr:=ih (pre++[b]) (by rw [← hp,cG];rfl)
   rw [ay,dh] at hr
   have bD:pre.length<B.length:=by rw [← hp];simp
   cases b with
   | none=>exact hr
   | some x =>
    have hx:B[pre.length]? = some (some x):=by rw [← hp,bJ (ah _),d_];rfl
    refine ⟨?_,hr⟩
    rw [ED _ bD,Bb π B.length ED x (qs h _ x hx)]
    show ((B++τ)[pre.length]?).join=some x
    rw [ck bD,hx];rfl
 exact key B [] rfl
theorem aq.stay {f r0:ae} {args:List ae} {n0 m:Nat} {S1:ai} (hl:S1.length=m) (hs:bt m S1) (h:aq P f args σ (fun r σ'=>r=r0∧σ'=S1)) :
  aq P f args σ (fun r σ'=>r=r0∧m≤σ'.length∧bt σ'.length σ'∧∃ π:Nat→Nat,(∀ b,b<n0→π b=b)∧(∀ b b',b<m→b'<m→π b = π b'→b=b')∧gj π σ' 0 S1):=by
 refine h.mono ?_
 rintro r σ' ⟨rfl,rfl⟩
 subst hl
 exact ⟨rfl,ah _,hs,pi [],fun _ _=>rfl,HZ (lo:=0) (KV _ _),Wu hs⟩
theorem aq.move {f r0:ae} {args:List ae} {n0 m:Nat} {S1 S':ai} (l:List (Nat×Nat)) (hl:m≤S'.length) (hs:bt S'.length S') (hp:qd l n0 m=true) (hr:gj (pi l) S' 0 S1) (h:aq P f args σ (fun r σ'=>r=r0∧σ'=S')) :
  aq P f args σ (fun r σ'=>r=r0∧m≤σ'.length∧bt σ'.length σ'∧∃ π:Nat→Nat,(∀ b,b<n0→π b=b)∧(∀ b b',b<m→b'<m→π b = π b'→b=b')∧gj π σ' 0 S1):=by
 refine h.mono ?_
 rintro r σ' ⟨rfl,rfl⟩
 have Vm:=hp
 simp only [qd,aD,bp,cu,beq_iff_eq] at Vm
 exact ⟨rfl,hl,hs,pi l,Vm.1,HZ hp,hr⟩
end
end Go.c8
