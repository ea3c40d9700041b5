/- Part 36 of my own framework and of the walks of functions: AcsK. -/
import Derived.Test.YtpgnahcljlclcaaGreatOwn35
set_option linter.unusedVariables false
set_option linter.unusedSectionVars false
set_option linter.unusedSimpArgs false
namespace Go.Abs
open Go
section
variable {P:Program} {lo:Ctx} {st st':St} {Q:AExit→St→Prop} {π:Nat→Nat} {σ:Store} {tm:List AVal}
theorem EvS.wr {c:Code} (h:Wr lo.n π st' st) (hlo:lo.n≤st'.σ.length) (he:EvS P lo c st' Q):EvS P lo c st Q:=by
 intro X base mb D β a w b k cs h1 h2 h3 hro
 obtain ⟨hw,hx⟩:=h.rel h3 hlo
 obtain ⟨e,st1,β1,a1,w1,q,g1,g2,g3,g4⟩:=he X base mb D _ a w b k cs hlo h2 hw (hro.ext hx)
 exact ⟨e,st1,β1,a1,w1,q,g1,g2,hx.trans g3,g4⟩
theorem EvK.wrC {c:Code} {k:List KI} (h:Wr lo.n π st' st) (hlo:lo.n≤st'.σ.length) (he:EvK P lo Q (.code c :: k) .normal st'):EvK P lo Q (.code c :: k) .normal st:=by
 simp only [EvK] at he ⊢
 exact EvS.wr h hlo he
theorem Ycb (h:∀ b,π b=b) {n:Nat} {l:List AVal} (hl:lowL n l):renL π l=l:=Zbj π n (fun b _=>h b) l hl
theorem EvK.pad {c:Code} {k:List KI} (m:Nat) (hlo:lo.n≤σ.length) (hlt:lowL σ.length tm) (hs:lowSo σ.length σ) (h:EvK P lo Q (.code c :: k) .normal ⟨tm,σ++List.replicate m none⟩):EvK P lo Q (.code c :: k) .normal ⟨tm,σ⟩:=by
 have hl:(σ++List.replicate m none).length = σ.length+m:=by simp
 refine EvK.wrC (π:=fun b=>b) ⟨fun b _=>rfl,fun b b' _ _ e=>e,?_,fun b x hb=>?_,?_,fun b x hb=>?_⟩ (by simp only [hl];omega) h
 ·simp only [Ycb (π:=fun b=>b) (fun _=>rfl) hlt];exact Zjc _
 ·have hb':=Zc1.1 hb
  simp only
  rw [hb',Zfd (fun b=>b) σ.length (fun b _=>rfl) x (Zat hs b x hb')]
 ·simp only [hl];exact Zac (by omega) hlt
 ·simp only [hl];exact Zfc (by omega) (Zat hs b x (Zc1.1 hb))
theorem VCall.beginK {g:FuncId} {fn:Func} {c:Code} {first captured args all:List AVal} {K:AVal→Store→Prop} {m:Nat} {rs:List ResultVar} (hf:P.funcs[g]? = some fn) (hb:fn.body=some c) (hr:fn.results.toList=rs)
  (hall : first ++ args ++ captured = all) (hm : fn.ntmps - all.length = m) (hname : (fn.name == "runtime.NumGoroutine") = false)
  (h:EvK P ⟨σ.length,none⟩ (retQ P rs (dropK K σ.length)) [.code c] .normal ⟨all++List.replicate m .undef,σ⟩):VCall P (.fn g first captured) args σ K:=by
 subst hr hm
 exact VCall.sh (by rw [hall];exact CallSh.drop (CallSh.body hf hb hname h))
def aw (m n:Nat) (a:AVal):Prop:=∀ ρ:Nat→Nat,(∀ b,b<m∨n≤b→ρ b=b)→ren ρ a=a
def awB (m n:Nat) (b:Option Blk):Prop:=∀ ρ:Nat→Nat,(∀ b,b<m∨n≤b→ρ b=b)→∀ x,b=some x→renB ρ x=x
theorem Zem {m n:Nat}:awayL m n []=True:=eq_true fun _ _=>rfl
theorem Zdd {m n:Nat} {a:AVal} {l:List AVal}:awayL m n (a :: l)=(aw m n a∧awayL m n l):=by
 apply propext
 constructor
 ·intro h
  have h':∀ ρ,(∀ b,b<m∨n≤b→ρ b=b)→ren ρ a=a∧renL ρ l=l:=fun ρ hρ=>by
   have:=h ρ hρ
   simpa [renL] using this
  exact ⟨fun ρ hρ=>(h' ρ hρ).1,fun ρ hρ=>(h' ρ hρ).2⟩
 ·rintro ⟨h1,h2⟩ ρ hρ
  simp only [renL];rw [h1 ρ hρ,h2 ρ hρ]
theorem Zqe {m n:Nat}:awayS m n []=True:=eq_true fun _ _ _ h=>by simp at h
theorem Zly {m n:Nat} {b:Option Blk} {τ:Store}:awayS m n (b :: τ)=(awB m n b∧awayS m n τ):=by
 apply propext
 constructor
 ·exact fun h=>⟨fun ρ hρ x e=>h ρ hρ x (by simp [e]),fun ρ hρ x e=>h ρ hρ x (by simp [e])⟩
 ·rintro ⟨h1,h2⟩ ρ hρ x e
  rcases List.mem_cons.1 e with e | e
  ·exact h1 ρ hρ x e.symm
  ·exact h2 ρ hρ x e
theorem Zjw {m n:Nat} {a:AVal} (h:a.low m):aw m n a:=fun ρ hρ=>Zov ρ m (fun b hb=>hρ b (.inl hb)) a h
theorem Yb4 {m n:Nat} {l:List AVal} (h:lowL m l):awayL m n l:=fun ρ hρ=>Zbj ρ m (fun b hb=>hρ b (.inl hb)) l h
theorem Ysj {m n b o:Nat} (h:b<m∨n≤b):aw m n (.ptr b o):=fun ρ hρ=>by simp only [ren,hρ b h]
theorem Ytw {m n b i f:Nat} (h:b<m∨n≤b):aw m n (.rp b i f):=fun ρ hρ=>by simp only [ren,hρ b h]
theorem Ynw {m n b o c s:Nat} (h:b<m∨n≤b):aw m n (.os b o c s):=fun ρ hρ=>by simp only [ren,hρ b h]
theorem Ymv {m n:Nat} {l:List AVal}:awB m n (some (.var l))=awayL m n l:=propext
 ⟨fun h ρ hρ=>by have:=h ρ hρ _ rfl;simpa [renB] using this,fun h ρ hρ x e=>by cases e;simp only [renB];rw [h ρ hρ]⟩
theorem Ym9 {m n f:Nat} {l:List AVal}:awB m n (some (.row l f))=awayL m n l:=propext
 ⟨fun h ρ hρ=>by have:=h ρ hρ _ rfl;simpa [renB] using this,fun h ρ hρ x e=>by cases e;simp only [renB];rw [h ρ hρ]⟩
theorem Zw9 {σ:Store} (hs:lowSo σ.length σ):leSoR (pi []) σ 0 σ:=by
 have key:∀ (r pre:Store),pre++r = σ→leSoR (pi []) σ pre.length r:=by
  intro r
  induction r with
  | nil=>intro _ _;trivial
  | cons b r ih =>
   intro pre hp
   have hr:=ih (pre++[b]) (by rw [← hp,List.append_assoc];rfl)
   rw [List.length_append,List.length_singleton] at hr
   cases b with
   | none=>exact hr
   | some x =>
    have hx : σ[pre.length]? = some (some x):=by rw [← hp,List.getElem?_append_right (Nat.le_refl _),Nat.sub_self];rfl
    refine ⟨?_,hr⟩
    rw [Zfd (pi []) σ.length (fun b _=>rfl) x (Zat hs _ x hx)]
    show (σ[pre.length]?).join=some x
    rw [hx];rfl
 exact key σ [] rfl
theorem Zn4 (lo n:Nat):piOk [] lo n=true:=by
 simp only [piOk,Bool.and_eq_true,List.all_eq_true,List.mem_range,Bool.or_eq_true,beq_iff_eq,bne_iff_ne]
 exact ⟨fun b _=>rfl,fun i _ j _=>by by_cases h:i=j;exact .inl h;exact .inr h⟩
theorem Zam {n m:Nat} (h:n≤m):∀ {σ:Store},lowSo n σ→lowSo m σ
 | [],_=>trivial
 | none :: _,hs=>⟨trivial,Zam h hs.2⟩
 | some _ :: _,hs=>⟨Zfc h hs.1,Zam h hs.2⟩
theorem Zde {n:Nat} {a:Option Blk} {σ:Store}:lowSo n (a :: σ)=(lowO n a∧lowSo n σ):=rfl
theorem Zas {n:Nat} {τ:Store}:∀ {σ:Store},lowSo n σ→lowSo n τ→lowSo n (σ++τ)
 | [],_,h=>h
 | _ :: _,hs,h=>⟨hs.1,Zas hs.2 h⟩
theorem Zjr {n:Nat} {b:Blk}:lowO n (some b)=b.low n:=rfl
theorem Yk6 {l:List (Nat×Nat)} {lo m n:Nat} (h:lo≤m) (hp:piOk l m n=true):piOk l lo n=true:=by
 simp only [piOk,Bool.and_eq_true,List.all_eq_true,List.mem_range] at hp ⊢
 exact ⟨fun b hb=>hp.1 b (by omega),hp.2⟩
theorem Ziy {l:List (Nat×Nat)} {lo n:Nat} (h:piOk l lo n=true):∀ b b',b<n→b'<n→pi l b=pi l b'→b=b':=by
 simp only [piOk,Bool.and_eq_true,List.all_eq_true,List.mem_range,Bool.or_eq_true,beq_iff_eq,bne_iff_ne] at h
 exact fun b b' l1 l2 e=>(h.2 b l1 b' l2).resolve_right (fun n=>n e)
theorem Zco {π:Nat→Nat} {B own τ:Store} (h:lowSo B.length B) (hπ:∀ b,b<B.length→π b=b) (h2:leSoR π (B++τ) B.length own):leSoR π (B++τ) 0 (B++own):=by
 have key:∀ (r pre:Store),pre++r=B→leSoR π (B++τ) pre.length (r++own):=by
  intro r
  induction r with
  | nil=>intro pre hp;rw [List.append_nil] at hp;subst hp;exact h2
  | cons b r ih =>
   intro pre hp
   have hr:=ih (pre++[b]) (by rw [← hp,List.append_assoc];rfl)
   rw [List.length_append,List.length_singleton] at hr
   have hlt:pre.length<B.length:=by rw [← hp];simp
   cases b with
   | none=>exact hr
   | some x =>
    have hx:B[pre.length]? = some (some x):=by rw [← hp,List.getElem?_append_right (Nat.le_refl _),Nat.sub_self];rfl
    refine ⟨?_,hr⟩
    rw [hπ _ hlt,Zfd π B.length hπ x (Zat h _ x hx)]
    show ((B++τ)[pre.length]?).join=some x
    rw [List.getElem?_append_left hlt,hx];rfl
 exact key B [] rfl
theorem VCall.stay {f r0:AVal} {args:List AVal} {n0 m:Nat} {S1:Store} (hl:S1.length=m) (hs:lowSo m S1) (h:VCall P f args σ (fun r σ'=>r=r0∧σ'=S1)) :
  VCall P f args σ (fun r σ'=>r=r0∧m≤σ'.length∧lowSo σ'.length σ'∧∃ π:Nat→Nat,(∀ b,b<n0→π b=b)∧(∀ b b',b<m→b'<m→π b = π b'→b=b')∧leSoR π σ' 0 S1):=by
 refine h.mono ?_
 rintro r σ' ⟨rfl,rfl⟩
 subst hl
 exact ⟨rfl,Nat.le_refl _,hs,pi [],fun _ _=>rfl,Ziy (lo:=0) (Zn4 _ _),Zw9 hs⟩
theorem VCall.move {f r0:AVal} {args:List AVal} {n0 m:Nat} {S1 S':Store} (l:List (Nat×Nat)) (hl:m≤S'.length) (hs:lowSo S'.length S') (hp:piOk l n0 m=true) (hr:leSoR (pi l) S' 0 S1) (h:VCall P f args σ (fun r σ'=>r=r0∧σ'=S')) :
  VCall P f args σ (fun r σ'=>r=r0∧m≤σ'.length∧lowSo σ'.length σ'∧∃ π:Nat→Nat,(∀ b,b<n0→π b=b)∧(∀ b b',b<m→b'<m→π b = π b'→b=b')∧leSoR π σ' 0 S1):=by
 refine h.mono ?_
 rintro r σ' ⟨rfl,rfl⟩
 have hp':=hp
 simp only [piOk,Bool.and_eq_true,List.all_eq_true,List.mem_range,beq_iff_eq] at hp'
 exact ⟨rfl,hl,hs,pi l,hp'.1,Ziy hp,hr⟩
end
end Go.Abs
