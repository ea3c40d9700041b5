/- Part 36 of my own framework and of the walks of functions: AcsK. -/
import Derived.Test.YtfjbdamcmiglgaaGreatOwn35
set_option linter.unusedVariables false
set_option linter.unusedSectionVars false
set_option linter.unusedSimpArgs false
namespace Go.cV
open Go
section
variable {P:Program} {lo:Ctx} {st dZ:St} {Q:cb→St→Prop} {π:Nat→Nat} {σ:ai} {tm:List ae}
theorem ic.wr {c:Code} (h:Wr lo.n π dZ st) (iL:lo.n≤dZ.σ.length) (he:ic P lo c dZ Q):ic P lo c st Q:=by
 intro X base mb D β a w b k cs h1 h2 h3 m9
 obtain ⟨hw,hx⟩:=h.rel h3 iL
 obtain ⟨e,ka,eS,a1,w1,q,g1,g2,g3,g4⟩:=he X base mb D _ a w b k cs iL h2 hw (m9.ext hx)
 exact ⟨e,ka,eS,a1,w1,q,g1,g2,hx.trans g3,g4⟩
theorem aK.wrC {c:Code} {k:List KI} (h:Wr lo.n π dZ st) (iL:lo.n≤dZ.σ.length) (he:aK P lo Q (.code c :: k) .normal dZ):aK P lo Q (.code c :: k) .normal st:=by
 simp only [aK] at he ⊢
 exact ic.wr h iL he
theorem Xm (h:∀ b,π b=b) {n:Nat} {l:List ae} (hl:bx n l):dY π l=l:=qn π n (fun b _=>h b) l hl
theorem aK.pad {c:Code} {k:List KI} (m:Nat) (iL:lo.n≤σ.length) (bD:bx σ.length tm) (hs:bt σ.length σ) (h:aK P lo Q (.code c :: k) .normal ⟨tm,σ++List.replicate m none⟩):aK P lo Q (.code c :: k) .normal ⟨tm,σ⟩:=by
 have hl:(σ++List.replicate m none).length = σ.length+m:=by simp
 refine aK.wrC (π:=fun b=>b) ⟨fun b _=>rfl,fun b b' _ _ e=>e,?_,fun b x hb=>?_,?_,fun b x hb=>?_⟩ (by simp only [hl];omega) h
 ·simp only [Xm (π:=fun b=>b) (fun _=>rfl) bD];exact Kw _
 ·have mY:=wI.1 hb
  simp only
  rw [mY,Bk (fun b=>b) σ.length (fun b _=>rfl) x (qA hs b x mY)]
 ·simp only [hl];exact ie (by omega) bD
 ·simp only [hl];exact JP (by omega) (qA hs b x (wI.1 hb))
theorem aq.l6 {g:FuncId} {fn:Func} {c:Code} {first captured args all:List ae} {K:ae→ai→Prop} {m:Nat} {rs:List ResultVar} (hf:P.funcs[g]? = some fn) (hb:fn.body=some c) (hr:fn.results.toList=rs)
  (eX : first ++ args ++ captured = all) (hm : fn.ntmps - all.length = m) (eE : (fn.name == "runtime.NumGoroutine") = false)
  (h:aK P ⟨σ.length,none⟩ (qm P rs (my K σ.length)) [.code c] .normal ⟨all++List.replicate m .undef,σ⟩):aq P (.fn g first captured) args σ K:=by
 subst hr hm
 exact aq.sh (by rw [eX];exact bS.drop (bS.body hf hb eE h))
def aw (m n:Nat) (a:ae):Prop:=∀ ρ:Nat→Nat,(∀ b,b<m∨n≤b→ρ b=b)→dI ρ a=a
def IU (m n:Nat) (b:Option bE):Prop:=∀ ρ:Nat→Nat,(∀ b,b<m∨n≤b→ρ b=b)→∀ x,b=some x→dG ρ x=x
theorem D2 {m n:Nat}:oJ m n []=True:=eq_true fun _ _=>rfl
theorem DT {m n:Nat} {a:ae} {l:List ae}:oJ m n (a :: l)=(aw m n a∧oJ m n l):=by
 apply propext
 constructor
 ·intro h
  have h':∀ ρ,(∀ b,b<m∨n≤b→ρ b=b)→dI ρ a=a∧dY ρ l=l:=fun ρ dL=>by
   have:=h ρ dL
   simpa [dY] using this
  exact ⟨fun ρ dL=>(h' ρ dL).1,fun ρ dL=>(h' ρ dL).2⟩
 ·rintro ⟨h1,h2⟩ ρ dL
  simp only [dY];rw [h1 ρ dL,h2 ρ dL]
theorem Sr {m n:Nat}:tO m n []=True:=eq_true fun _ _ _ h=>by simp at h
theorem Q5 {m n:Nat} {b:Option bE} {τ:ai}:tO m n (b :: τ)=(IU m n b∧tO m n τ):=by
 apply propext
 constructor
 ·exact fun h=>⟨fun ρ dL x e=>h ρ dL x (by simp [e]),fun ρ dL x e=>h ρ dL x (by simp [e])⟩
 ·rintro ⟨h1,h2⟩ ρ dL x e
  rcases aP.1 e with e | e
  ·exact h1 ρ dL x e.symm
  ·exact h2 ρ dL x e
theorem Ct {m n:Nat} {a:ae} (h:a.low m):aw m n a:=fun ρ dL=>FJ ρ m (fun b hb=>dL b (.inl hb)) a h
theorem Zy {m n:Nat} {l:List ae} (h:bx m l):oJ m n l:=fun ρ dL=>qn ρ m (fun b hb=>dL b (.inl hb)) l h
theorem Ywr {m n b o:Nat} (h:b<m∨n≤b):aw m n (.ptr b o):=fun ρ dL=>by simp only [dI,dL b h]
theorem Yzl {m n b i f:Nat} (h:b<m∨n≤b):aw m n (.rp b i f):=fun ρ dL=>by simp only [dI,dL b h]
theorem PT {m n b o c s:Nat} (h:b<m∨n≤b):aw m n (.os b o c s):=fun ρ dL=>by simp only [dI,dL b h]
theorem Yqp {m n:Nat} {l:List ae}:IU m n (some (.var l))=oJ m n l:=propext
 ⟨fun h ρ dL=>by have:=h ρ dL _ rfl;simpa [dG] using this,fun h ρ dL x e=>by cases e;simp only [dG];rw [h ρ dL]⟩
theorem Ypa {m n f:Nat} {l:List ae}:IU m n (some (.row l f))=oJ m n l:=propext
 ⟨fun h ρ dL=>by have:=h ρ dL _ rfl;simpa [dG] using this,fun h ρ dL x e=>by cases e;simp only [dG];rw [h ρ dL]⟩
theorem Zyt {σ:ai} (hs:bt σ.length σ):gb (pi []) σ 0 σ:=by
 have key:∀ (r pre:ai),pre++r = σ→gb (pi []) σ pre.length r:=by
  intro r
  induction r with
  | nil=>intro _ _;trivial
  | cons b r ih =>
   intro pre hp
   have hr:=ih (pre++[b]) (by rw [← hp,cJ];rfl)
   rw [ay,di] at hr
   cases b with
   | none=>exact hr
   | some x =>
    have hx : σ[pre.length]? = some (some x):=by rw [← hp,bI (ah _),ei];rfl
    refine ⟨?_,hr⟩
    rw [Bk (pi []) σ.length (fun b _=>rfl) x (qA hs _ x hx)]
    show (σ[pre.length]?).join=some x
    rw [hx];rfl
 exact key σ [] rfl
theorem KX (lo n:Nat):qk [] lo n=true:=by
 simp only [qk,aD,bp,cw,b9,beq_iff_eq,bne_iff_ne]
 exact ⟨fun b _=>rfl,fun i _ j _=>by by_cases h:i=j;exact .inl h;exact .inr h⟩
theorem nA {n m:Nat} (h:n≤m):∀ {σ:ai},bt n σ→bt m σ
 | [],_=>trivial
 | none :: _,hs=>⟨trivial,nA h hs.2⟩
 | some _ :: _,hs=>⟨JP h hs.1,nA h hs.2⟩
theorem wF {n:Nat} {a:Option bE} {σ:ai}:bt n (a :: σ)=(ji n a∧bt n σ):=rfl
theorem o9 {n:Nat} {τ:ai}:∀ {σ:ai},bt n σ→bt n τ→bt n (σ++τ)
 | [],_,h=>h
 | _ :: _,hs,h=>⟨hs.1,o9 hs.2 h⟩
theorem xg {n:Nat} {b:bE}:ji n (some b)=b.low n:=rfl
theorem Ysr {l:List (Nat×Nat)} {lo m n:Nat} (h:lo≤m) (hp:qk l m n=true):qk l lo n=true:=by
 simp only [qk,aD,bp,cw] at hp ⊢
 exact ⟨fun b hb=>hp.1 b (by omega),hp.2⟩
theorem H4 {l:List (Nat×Nat)} {lo n:Nat} (h:qk l lo n=true):∀ b b',b<n→b'<n→pi l b=pi l b'→b=b':=by
 simp only [qk,aD,bp,cw,b9,beq_iff_eq,bne_iff_ne] at h
 exact fun b b' l1 l2 e=>(h.2 b l1 b' l2).resolve_right (fun n=>n e)
theorem zN {π:Nat→Nat} {B own τ:ai} (h:bt B.length B) (EL:∀ b,b<B.length→π b=b) (h2:gb π (B++τ) B.length own):gb π (B++τ) 0 (B++own):=by
 have key:∀ (r pre:ai),pre++r=B→gb π (B++τ) pre.length (r++own):=by
  intro r
  induction r with
  | nil=>intro pre hp;rw [bn] at hp;subst hp;exact h2
  | cons b r ih =>
   intro pre hp
   have hr:=ih (pre++[b]) (by rw [← hp,cJ];rfl)
   rw [ay,di] at hr
   have bD:pre.length<B.length:=by rw [← hp];simp
   cases b with
   | none=>exact hr
   | some x =>
    have hx:B[pre.length]? = some (some x):=by rw [← hp,bI (ah _),ei];rfl
    refine ⟨?_,hr⟩
    rw [EL _ bD,Bk π B.length EL x (qA h _ x hx)]
    show ((B++τ)[pre.length]?).join=some x
    rw [cm bD,hx];rfl
 exact key B [] rfl
theorem aq.stay {f r0:ae} {args:List ae} {n0 m:Nat} {S1:ai} (hl:S1.length=m) (hs:bt m S1) (h:aq P f args σ (fun r σ'=>r=r0∧σ'=S1)) :
  aq P f args σ (fun r σ'=>r=r0∧m≤σ'.length∧bt σ'.length σ'∧∃ π:Nat→Nat,(∀ b,b<n0→π b=b)∧(∀ b b',b<m→b'<m→π b = π b'→b=b')∧gb π σ' 0 S1):=by
 refine h.mono ?_
 rintro r σ' ⟨rfl,rfl⟩
 subst hl
 exact ⟨rfl,ah _,hs,pi [],fun _ _=>rfl,H4 (lo:=0) (KX _ _),Zyt hs⟩
theorem aq.move {f r0:ae} {args:List ae} {n0 m:Nat} {S1 S':ai} (l:List (Nat×Nat)) (hl:m≤S'.length) (hs:bt S'.length S') (hp:qk l n0 m=true) (hr:gb (pi l) S' 0 S1) (h:aq P f args σ (fun r σ'=>r=r0∧σ'=S')) :
  aq P f args σ (fun r σ'=>r=r0∧m≤σ'.length∧bt σ'.length σ'∧∃ π:Nat→Nat,(∀ b,b<n0→π b=b)∧(∀ b b',b<m→b'<m→π b = π b'→b=b')∧gb π σ' 0 S1):=by
 refine h.mono ?_
 rintro r σ' ⟨rfl,rfl⟩
 have VG:=hp
 simp only [qk,aD,bp,cw,beq_iff_eq] at VG
 exact ⟨rfl,hl,hs,pi l,VG.1,H4 hp,hr⟩
end
end Go.cV
